import Derived.Test.YtimimfbiejijdaaNsQ
import Derived.Test.YtimimfbiejijdaaProg
import Derived.KernelRfl
set_option maxRecDepth 100000
namespace Go.Proofs
open Go.Ns
/-- A long list of one value over and over. -/
def fill (n : Nat) (x : NV) : List NV := List.replicate n x

/-- matchguard/matchguardlaw16.RefsEntries -/
def t3 : NFn := ⟨41, [(.tmp 4)],
  (.seq
   (.ops [
     ⟨(some 4), .move (.const (.bool false)), none⟩])
   (.seq
    (.ops [
      ⟨(some 9), .move (.tmp 0), none⟩,
      ⟨(some 10), .call 7 [(.tmp 9)], none⟩,
      ⟨(some 11), .move (.tmp 1), none⟩,
      ⟨(some 12), .call 8 [(.tmp 11), (.const (.int .i64 120))], none⟩,
      ⟨(some 5), .alloc [(.slice none 0 (.fix 0)), (.slice none 0 (.fix 0)), (.slice none 0 (.fix 0)), (.slice none 0 (.fix 0)), (.slice none 0 (.fix 0)), (.slice none 0 (.fix 0)), (.slice none 0 (.fix 0)), (.slice none 0 (.fix 0)), (.int .i64 0), (.int .i64 0)], none⟩,
      ⟨none, .store 10 (.tmp 5) (.tmp 10), none⟩,
      ⟨(some 6), .move (.tmp 12), none⟩])
    (.seq
     (.seq
      (.ops [
        ⟨(some 13), .move (.tmp 6), none⟩,
        ⟨(some 14), .load 10 true (.tmp 5), none⟩,
        ⟨(some 15), .call 9 [(.tmp 13), (.tmp 14), (.const (.int .i64 12))], none⟩,
        ⟨(some 16), .lenSl (.tmp 15), none⟩,
        ⟨(some 17), .move (.const (.int .i64 0)), none⟩])
      (.block 0
       (.loop
        (.seq
         (.ops [
           ⟨(some 18), .bin .lss (.tmp 17) (.tmp 16), none⟩])
         (.seq
          (.cond (.tmp 18)
           .skip
           (.exit 0))
          (.seq
           (.block 1
            (.seq
             (.ops [
               ⟨(some 19), .idxSl (.tmp 15) (.tmp 17) 5, none⟩,
               ⟨(some 20), .load 5 true (.tmp 19), none⟩,
               ⟨(some 8), .alloc [(.int .i64 0), (.slice none 0 (.fix 0)), (.int .i64 0), (.int .i64 0), (.slice none 0 (.fix 0))], none⟩,
               ⟨none, .store 5 (.tmp 8) (.tmp 20), none⟩])
             (.seq
              (.draw 0 [
                ⟨0, ⟨(some 21), .load 10 true (.tmp 5), none⟩, [], 0⟩,
                ⟨1, ⟨(some 22), .load 5 true (.tmp 8), none⟩, [], 0⟩,
                ⟨2, ⟨(some 23), .call 11 [(.tmp 21), (.tmp 22)], none⟩, [0, 1], 0⟩,
                ⟨3, ⟨(some 24), .load 10 true (.tmp 5), none⟩, [], 0⟩,
                ⟨4, ⟨(some 25), .load 5 true (.tmp 8), none⟩, [], 0⟩,
                ⟨5, ⟨(some 26), .call 12 [(.tmp 24), (.tmp 25)], none⟩, [3, 4, 2, 0, 1], 0⟩,
                ⟨6, ⟨(some 27), .call 10 [(.tmp 23), (.tmp 26)], none⟩, [2, 0, 1, 5, 3, 4], 0⟩,
                ⟨7, ⟨(some 28), .un .not (.tmp 27), none⟩, [6, 2, 0, 1, 5, 3, 4], 0⟩,
                ⟨8, ⟨(some 29), .move (.tmp 28), none⟩, [7, 6, 2, 0, 1, 5, 3, 4], 0⟩,
                ⟨9, ⟨(some 30), .load 10 true (.tmp 5), (some (29, false))⟩, [8, 7, 6, 2, 0, 1, 5, 3, 4], 0⟩,
                ⟨10, ⟨(some 31), .load 5 true (.tmp 8), (some (29, false))⟩, [8, 7, 6, 2, 0, 1, 5, 3, 4], 0⟩,
                ⟨11, ⟨(some 32), .call 13 [(.tmp 30), (.tmp 31)], (some (29, false))⟩, [9, 8, 7, 6, 2, 0, 1, 5, 3, 4, 10], 0⟩,
                ⟨12, ⟨(some 33), .load 10 true (.tmp 5), (some (29, false))⟩, [8, 7, 6, 2, 0, 1, 5, 3, 4], 0⟩,
                ⟨13, ⟨(some 34), .load 5 true (.tmp 8), (some (29, false))⟩, [8, 7, 6, 2, 0, 1, 5, 3, 4], 0⟩,
                ⟨14, ⟨(some 35), .call 14 [(.tmp 33), (.tmp 34)], (some (29, false))⟩, [12, 8, 7, 6, 2, 0, 1, 5, 3, 4, 13, 11, 9, 10], 0⟩,
                ⟨15, ⟨(some 36), .call 10 [(.tmp 32), (.tmp 35)], (some (29, false))⟩, [11, 9, 8, 7, 6, 2, 0, 1, 5, 3, 4, 10, 14, 12, 13], 0⟩,
                ⟨16, ⟨(some 37), .un .not (.tmp 36), (some (29, false))⟩, [15, 11, 9, 8, 7, 6, 2, 0, 1, 5, 3, 4, 10, 14, 12, 13], 0⟩,
                ⟨17, ⟨(some 38), .pick (.tmp 29) (.const (.bool true)) (.tmp 37), none⟩, [8, 7, 6, 2, 0, 1, 5, 3, 4, 16, 15, 11, 9, 10, 14, 12, 13], 0⟩])
              (.cond (.tmp 38)
               (.seq
                (.ops [
                  ⟨(some 4), .move (.const (.bool false)), none⟩])
                .ret)
               .skip))))
           (.ops [
             ⟨(some 39), .bin .add (.tmp 17) (.const (.int .i64 1)), none⟩,
             ⟨(some 17), .move (.tmp 39), none⟩])))))))
     (.seq
      (.ops [
        ⟨(some 40), .call 15 [], none⟩,
        ⟨(some 4), .move (.tmp 40), none⟩])
      .ret))))⟩
theorem t3_ok : goodFn Try.prog 3 = true ∧ cfn Try.prog 3 = t3 := ⟨by kernel_rfl, by kernel_rfl⟩

/-- matchguard/matchguardlaw16.referring -/
def t7 : NFn := ⟨40, [(.cell 2 10 true)],
  (.seq
   (.ops [
     ⟨(some 2), .alloc [(.slice none 0 (.fix 0)), (.slice none 0 (.fix 0)), (.slice none 0 (.fix 0)), (.slice none 0 (.fix 0)), (.slice none 0 (.fix 0)), (.slice none 0 (.fix 0)), (.slice none 0 (.fix 0)), (.slice none 0 (.fix 0)), (.int .i64 0), (.int .i64 0)], none⟩])
   (.seq
    (.ops [
      ⟨(some 4), .move (.tmp 0), none⟩,
      ⟨(some 5), .call 8 [(.tmp 4), (.const (.int .i64 120))], none⟩,
      ⟨(some 6), .call 28 [(.tmp 5)], none⟩,
      ⟨(some 3), .alloc [(.slice none 0 (.fix 0)), (.slice none 0 (.fix 0)), (.slice none 0 (.fix 0)), (.slice none 0 (.fix 0)), (.slice none 0 (.fix 0)), (.slice none 0 (.fix 0)), (.slice none 0 (.fix 0)), (.slice none 0 (.fix 0)), (.int .i64 0), (.int .i64 0)], none⟩,
      ⟨none, .store 10 (.tmp 3) (.tmp 6), none⟩])
    (.seq
     (.ops [
       ⟨(some 7), .build [(.int .i64 0), (.int .i64 0), (.int .i64 0), (.int .i64 0), (.int .i64 0), (.int .i64 0)] [(0, 1, (.const (.int .i64 2))), (2, 1, (.const (.int .i64 4))), (4, 1, (.const (.int .i64 1)))], none⟩,
       ⟨(some 8), .bslice 1 [(.int .i64 0), (.int .i64 0), (.int .i64 0), (.int .i64 0), (.int .i64 0), (.int .i64 0)] [(0, 6, (.tmp 7))], none⟩,
       ⟨(some 9), .off (.tmp 3) 7, none⟩,
       ⟨none, .store 1 (.tmp 9) (.tmp 8), none⟩])
     (.seq
      (.seq
       (.ops [
         ⟨(some 10), .off (.tmp 3) 4, none⟩,
         ⟨(some 11), .load 1 false (.tmp 10), none⟩,
         ⟨(some 12), .idxSl (.tmp 11) (.const (.int .i64 2)) 8, none⟩,
         ⟨(some 13), .off (.tmp 12) 2, none⟩,
         ⟨(some 14), .load 1 false (.tmp 13), none⟩,
         ⟨(some 15), .lenSl (.tmp 14), none⟩,
         ⟨(some 16), .bin .eql (.tmp 15) (.const (.int .i64 3)), none⟩])
       (.cond (.tmp 16)
        (.ops [
          ⟨(some 17), .off (.tmp 3) 7, none⟩,
          ⟨(some 18), .load 1 false (.tmp 17), none⟩,
          ⟨(some 19), .build [(.int .i64 0), (.int .i64 0), (.int .i64 0), (.int .i64 0), (.int .i64 0), (.int .i64 0)] [(0, 1, (.const (.int .i64 3))), (1, 1, (.const (.int .i64 2))), (4, 1, (.const (.int .i64 1)))], none⟩,
          ⟨(some 20), .build [(.int .i64 0), (.int .i64 0), (.int .i64 0), (.int .i64 0), (.int .i64 0), (.int .i64 0)] [(0, 1, (.const (.int .i64 3))), (2, 1, (.const (.int .i64 5))), (4, 1, (.const (.int .i64 1)))], none⟩,
          ⟨(some 21), .bslice 2 [(.int .i64 0), (.int .i64 0), (.int .i64 0), (.int .i64 0), (.int .i64 0), (.int .i64 0), (.int .i64 0), (.int .i64 0), (.int .i64 0), (.int .i64 0), (.int .i64 0), (.int .i64 0)] [(0, 6, (.tmp 19)), (6, 6, (.tmp 20))], none⟩,
          ⟨(some 22), .append 6 48 (.tmp 18) (.tmp 21), none⟩,
          ⟨(some 23), .off (.tmp 3) 7, none⟩,
          ⟨none, .store 1 (.tmp 23) (.tmp 22), none⟩])
        .skip))
      (.seq
       (.seq
        (.ops [
          ⟨(some 24), .off (.tmp 3) 4, none⟩,
          ⟨(some 25), .load 1 false (.tmp 24), none⟩,
          ⟨(some 26), .idxSl (.tmp 25) (.const (.int .i64 3)) 8, none⟩,
          ⟨(some 27), .off (.tmp 26) 2, none⟩,
          ⟨(some 28), .load 1 false (.tmp 27), none⟩,
          ⟨(some 29), .lenSl (.tmp 28), none⟩,
          ⟨(some 30), .bin .eql (.tmp 29) (.const (.int .i64 3)), none⟩])
        (.cond (.tmp 30)
         (.ops [
           ⟨(some 31), .off (.tmp 3) 7, none⟩,
           ⟨(some 32), .load 1 false (.tmp 31), none⟩,
           ⟨(some 33), .build [(.int .i64 0), (.int .i64 0), (.int .i64 0), (.int .i64 0), (.int .i64 0), (.int .i64 0)] [(0, 1, (.const (.int .i64 4))), (1, 1, (.const (.int .i64 1))), (4, 1, (.const (.int .i64 1)))], none⟩,
           ⟨(some 34), .build [(.int .i64 0), (.int .i64 0), (.int .i64 0), (.int .i64 0), (.int .i64 0), (.int .i64 0)] [(0, 1, (.const (.int .i64 4))), (2, 1, (.const (.int .i64 5))), (4, 1, (.const (.int .i64 1)))], none⟩,
           ⟨(some 35), .build [(.int .i64 0), (.int .i64 0), (.int .i64 0), (.int .i64 0), (.int .i64 0), (.int .i64 0)] [(0, 1, (.const (.int .i64 4))), (1, 1, (.const (.int .i64 1))), (4, 1, (.const (.int .i64 1)))], none⟩,
           ⟨(some 36), .bslice 3 [(.int .i64 0), (.int .i64 0), (.int .i64 0), (.int .i64 0), (.int .i64 0), (.int .i64 0), (.int .i64 0), (.int .i64 0), (.int .i64 0), (.int .i64 0), (.int .i64 0), (.int .i64 0), (.int .i64 0), (.int .i64 0), (.int .i64 0), (.int .i64 0), (.int .i64 0), (.int .i64 0)] [(0, 6, (.tmp 33)), (6, 6, (.tmp 34)), (12, 6, (.tmp 35))], none⟩,
           ⟨(some 37), .append 6 48 (.tmp 32) (.tmp 36), none⟩,
           ⟨(some 38), .off (.tmp 3) 7, none⟩,
           ⟨none, .store 1 (.tmp 38) (.tmp 37), none⟩])
         .skip))
       (.seq
        (.ops [
          ⟨(some 39), .load 10 true (.tmp 3), none⟩,
          ⟨none, .store 10 (.tmp 2) (.tmp 39), none⟩])
        .ret))))))⟩
theorem t7_ok : goodFn Try.prog 7 = true ∧ cfn Try.prog 7 = t7 := ⟨by kernel_rfl, by kernel_rfl⟩

/-- matchguard/matchguardcase.New -/
def t8 : NFn := ⟨13, [(.tmp 4)],
  (.seq
   (.ops [
     ⟨(some 4), .move (.const (.ptr none)), none⟩])
   (.seq
    (.ops [
      ⟨(some 5), .move (.tmp 0), none⟩,
      ⟨(some 6), .move (.tmp 0), none⟩,
      ⟨(some 7), .lenSl (.tmp 6), none⟩,
      ⟨(some 8), .move (.tmp 1), none⟩,
      ⟨(some 9), .minmax false [(.tmp 7), (.tmp 8)], none⟩,
      ⟨(some 10), .slice (.tmp 5) none (some (.tmp 9)) none 1, none⟩,
      ⟨(some 11), .build [(.slice none 0 (.fix 0)), (.int .i64 0)] [(0, 1, (.tmp 10))], none⟩,
      ⟨(some 12), .box (.tmp 11), none⟩,
      ⟨(some 4), .move (.tmp 12), none⟩])
    .ret))⟩
theorem t8_ok : goodFn Try.prog 8 = true ∧ cfn Try.prog 8 = t8 := ⟨by kernel_rfl, by kernel_rfl⟩

/-- (*matchguard/matchguardcase.Codes).Entries -/
def t9 : NFn := ⟨25, [(.tmp 6)],
  (.seq
   (.ops [
     ⟨(some 4), .box (.tmp 1), none⟩,
     ⟨(some 6), .move (.const (.slice none 0 (.fix 0))), none⟩])
   (.seq
    (.ops [
      ⟨(some 7), .move (.const (.slice none 0 (.fix 0))), none⟩])
    (.seq
     (.block 0
      (.loop
       (.seq
        (.seq
         (.ops [
           ⟨(some 8), .move (.tmp 7), none⟩,
           ⟨(some 9), .lenSl (.tmp 8), none⟩,
           ⟨(some 10), .move (.tmp 2), none⟩,
           ⟨(some 11), .bin .lss (.tmp 9) (.tmp 10), none⟩,
           ⟨(some 12), .move (.tmp 11), none⟩,
           ⟨(some 13), .move (.tmp 0), (some (12, true))⟩,
           ⟨(some 14), .call 19 [(.tmp 13)], (some (12, true))⟩,
           ⟨(some 15), .pick (.tmp 12) (.tmp 14) (.const (.bool false)), none⟩])
         (.cond (.tmp 15)
          .skip
          (.exit 0)))
        (.block 1
         (.draw 1 [
           ⟨0, ⟨(some 16), .move (.tmp 7), none⟩, [], 0⟩,
           ⟨1, ⟨(some 17), .move (.tmp 0), none⟩, [], 0⟩,
           ⟨2, ⟨(some 18), .load 10 true (.tmp 4), none⟩, [], 0⟩,
           ⟨3, ⟨(some 19), .move (.tmp 0), none⟩, [], 0⟩,
           ⟨4, ⟨(some 20), .call 20 [(.tmp 19), (.const (.int .i64 4))], none⟩, [3], 0⟩,
           ⟨5, ⟨(some 21), .call 22 [(.tmp 17), (.tmp 18), (.tmp 20)], none⟩, [1, 2, 4, 3], 0⟩,
           ⟨6, ⟨(some 22), .bslice 1 [(.int .i64 0), (.slice none 0 (.fix 0)), (.int .i64 0), (.int .i64 0), (.slice none 0 (.fix 0))] [(0, 5, (.tmp 21))], none⟩, [5, 1, 2, 4, 3], 0⟩,
           ⟨7, ⟨(some 23), .append 5 72 (.tmp 16) (.tmp 22), none⟩, [0, 6, 5, 1, 2, 4, 3], 1⟩,
           ⟨8, ⟨(some 7), .move (.tmp 23), none⟩, [7, 0, 6, 5, 1, 2, 4, 3], 1⟩])))))
     (.seq
      (.ops [
        ⟨(some 24), .move (.tmp 7), none⟩,
        ⟨(some 6), .move (.tmp 24), none⟩])
      .ret))))⟩
theorem t9_ok : goodFn Try.prog 9 = true ∧ cfn Try.prog 9 = t9 := ⟨by kernel_rfl, by kernel_rfl⟩

/-- matchguard/matchguardlaw16.targets -/
def t10 : NFn := ⟨32, [(.tmp 4)],
  (.seq
   (.ops [
     ⟨(some 4), .move (.const (.bool false)), none⟩])
   (.seq
    (.seq
     (.ops [
       ⟨(some 7), .move (.tmp 0), none⟩,
       ⟨(some 8), .lenSl (.tmp 7), none⟩,
       ⟨(some 9), .move (.tmp 1), none⟩,
       ⟨(some 10), .lenSl (.tmp 9), none⟩,
       ⟨(some 11), .bin .neq (.tmp 8) (.tmp 10), none⟩])
     (.cond (.tmp 11)
      (.seq
       (.ops [
         ⟨(some 4), .move (.const (.bool false)), none⟩])
       .ret)
      .skip))
    (.seq
     (.seq
      (.ops [
        ⟨(some 12), .move (.tmp 0), none⟩,
        ⟨(some 13), .lenSl (.tmp 12), none⟩,
        ⟨(some 14), .move (.const (.int .i64 0)), none⟩])
      (.block 0
       (.loop
        (.seq
         (.ops [
           ⟨(some 15), .bin .lss (.tmp 14) (.tmp 13), none⟩])
         (.seq
          (.cond (.tmp 15)
           .skip
           (.exit 0))
          (.seq
           (.block 1
            (.seq
             (.ops [
               ⟨(some 16), .move (.tmp 14), none⟩,
               ⟨(some 17), .idxSl (.tmp 12) (.tmp 14) 4, none⟩,
               ⟨(some 18), .load 4 true (.tmp 17), none⟩,
               ⟨(some 6), .alloc [(.int .i64 0), (.int .i64 0), (.int .u64 0), (.int .u64 0)], none⟩,
               ⟨(some 5), .move (.tmp 16), none⟩,
               ⟨none, .store 4 (.tmp 6) (.tmp 18), none⟩])
             (.seq
              (.draw 0 [
                ⟨0, ⟨(some 19), .off (.tmp 6) 0, none⟩, [], 0⟩,
                ⟨1, ⟨(some 20), .load 1 false (.tmp 19), none⟩, [0], 0⟩,
                ⟨2, ⟨(some 21), .off (.tmp 6) 1, none⟩, [], 0⟩,
                ⟨3, ⟨(some 22), .load 1 false (.tmp 21), none⟩, [2], 0⟩,
                ⟨4, ⟨(some 23), .off (.tmp 6) 2, none⟩, [], 0⟩,
                ⟨5, ⟨(some 24), .load 2 true (.tmp 23), none⟩, [4], 0⟩,
                ⟨6, ⟨(some 25), .build [(.int .i64 0), (.int .i64 0), (.int .u64 0), (.int .u64 0)] [(0, 1, (.tmp 20)), (1, 1, (.tmp 22)), (2, 2, (.tmp 24))], none⟩, [1, 0, 3, 2, 5, 4], 0⟩,
                ⟨7, ⟨(some 26), .move (.tmp 1), none⟩, [], 0⟩,
                ⟨8, ⟨(some 27), .move (.tmp 5), none⟩, [], 0⟩,
                ⟨9, ⟨(some 28), .idxSl (.tmp 26) (.tmp 27) 4, none⟩, [7, 8], 0⟩,
                ⟨10, ⟨(some 29), .load 4 true (.tmp 28), none⟩, [9, 7, 8], 0⟩,
                ⟨11, ⟨(some 30), .eq true true [.int, .int, .int, .int] (.tmp 25) (.tmp 29), none⟩, [6, 1, 0, 3, 2, 5, 4, 10, 9, 7, 8], 0⟩])
              (.cond (.tmp 30)
               (.seq
                (.ops [
                  ⟨(some 4), .move (.const (.bool false)), none⟩])
                .ret)
               .skip))))
           (.ops [
             ⟨(some 31), .bin .add (.tmp 14) (.const (.int .i64 1)), none⟩,
             ⟨(some 14), .move (.tmp 31), none⟩])))))))
     (.seq
      (.ops [
        ⟨(some 4), .move (.const (.bool true)), none⟩])
      .ret))))⟩
theorem t10_ok : goodFn Try.prog 10 = true ∧ cfn Try.prog 10 = t10 := ⟨by kernel_rfl, by kernel_rfl⟩

/-- matchguard/refs.Needs -/
def t11 : NFn := ⟨57, [(.tmp 4)],
  (.seq
   (.ops [
     ⟨(some 2), .box (.tmp 0), none⟩,
     ⟨(some 3), .box (.tmp 1), none⟩,
     ⟨(some 4), .move (.const (.slice none 0 (.fix 0))), none⟩])
   (.seq
    (.ops [
      ⟨(some 5), .move (.const (.slice none 0 (.fix 0))), none⟩])
    (.seq
     (.seq
      (.ops [
        ⟨(some 8), .off (.tmp 2) 7, none⟩,
        ⟨(some 9), .load 1 false (.tmp 8), none⟩,
        ⟨(some 10), .lenSl (.tmp 9), none⟩,
        ⟨(some 11), .move (.const (.int .i64 0)), none⟩])
      (.block 0
       (.loop
        (.seq
         (.ops [
           ⟨(some 12), .bin .lss (.tmp 11) (.tmp 10), none⟩])
         (.seq
          (.cond (.tmp 12)
           .skip
           (.exit 0))
          (.seq
           (.block 1
            (.seq
             (.ops [
               ⟨(some 13), .idxSl (.tmp 9) (.tmp 11) 6, none⟩,
               ⟨(some 14), .load 6 true (.tmp 13), none⟩,
               ⟨(some 7), .alloc [(.int .i64 0), (.int .i64 0), (.int .i64 0), (.int .i64 0), (.int .i64 0), (.int .i64 0)], none⟩,
               ⟨none, .store 6 (.tmp 7) (.tmp 14), none⟩])
             (.block 2
              (.seq
               (.ops [
                 ⟨(some 16), .off (.tmp 7) 0, none⟩,
                 ⟨(some 17), .load 1 false (.tmp 16), none⟩,
                 ⟨(some 18), .off (.tmp 3) 0, none⟩,
                 ⟨(some 19), .load 1 false (.tmp 18), none⟩,
                 ⟨(some 20), .bin .neq (.tmp 17) (.tmp 19), none⟩,
                 ⟨(some 15), .move (.tmp 20), none⟩])
               (.cond (.tmp 15)
                .skip
                (.seq
                 (.ops [
                   ⟨(some 22), .off (.tmp 7) 2, none⟩,
                   ⟨(some 23), .load 1 false (.tmp 22), none⟩,
                   ⟨(some 24), .bin .eql (.tmp 23) (.const (.int .i64 0)), none⟩,
                   ⟨(some 21), .move (.tmp 24), none⟩])
                 (.cond (.tmp 21)
                  (.draw 1 [
                    ⟨0, ⟨(some 25), .move (.tmp 5), none⟩, [], 0⟩,
                    ⟨1, ⟨(some 26), .off (.tmp 7) 4, none⟩, [], 0⟩,
                    ⟨2, ⟨(some 27), .load 1 false (.tmp 26), none⟩, [1], 0⟩,
                    ⟨3, ⟨(some 28), .off (.tmp 7) 5, none⟩, [], 0⟩,
                    ⟨4, ⟨(some 29), .load 1 false (.tmp 28), none⟩, [3], 0⟩,
                    ⟨5, ⟨(some 30), .load 5 true (.tmp 3), none⟩, [], 0⟩,
                    ⟨6, ⟨(some 31), .off (.tmp 7) 1, none⟩, [], 0⟩,
                    ⟨7, ⟨(some 32), .load 1 false (.tmp 31), none⟩, [6], 0⟩,
                    ⟨8, ⟨(some 33), .call 29 [(.tmp 30), (.tmp 32)], none⟩, [5, 7, 6], 0⟩,
                    ⟨9, ⟨(some 34), .build [(.int .i64 0), (.int .i64 0), (.int .u64 0), (.int .u64 0)] [(0, 1, (.tmp 27)), (1, 1, (.tmp 29)), (2, 2, (.tmp 33))], none⟩, [2, 1, 4, 3, 8, 5, 7, 6], 0⟩,
                    ⟨10, ⟨(some 35), .bslice 1 [(.int .i64 0), (.int .i64 0), (.int .u64 0), (.int .u64 0)] [(0, 4, (.tmp 34))], none⟩, [9, 2, 1, 4, 3, 8, 5, 7, 6], 0⟩,
                    ⟨11, ⟨(some 36), .append 4 32 (.tmp 25) (.tmp 35), none⟩, [0, 10, 9, 2, 1, 4, 3, 8, 5, 7, 6], 1⟩,
                    ⟨12, ⟨(some 5), .move (.tmp 36), none⟩, [11, 0, 10, 9, 2, 1, 4, 3, 8, 5, 7, 6], 1⟩])
                  (.seq
                   (.ops [
                     ⟨(some 38), .off (.tmp 7) 2, none⟩,
                     ⟨(some 39), .load 1 false (.tmp 38), none⟩,
                     ⟨(some 40), .off (.tmp 3) 3, none⟩,
                     ⟨(some 41), .load 1 false (.tmp 40), none⟩,
                     ⟨(some 42), .bin .eql (.tmp 39) (.tmp 41), none⟩,
                     ⟨(some 37), .move (.tmp 42), none⟩])
                   (.cond (.tmp 37)
                    (.draw 1 [
                      ⟨0, ⟨(some 43), .move (.tmp 5), none⟩, [], 0⟩,
                      ⟨1, ⟨(some 44), .off (.tmp 7) 4, none⟩, [], 0⟩,
                      ⟨2, ⟨(some 45), .load 1 false (.tmp 44), none⟩, [1], 0⟩,
                      ⟨3, ⟨(some 46), .off (.tmp 7) 5, none⟩, [], 0⟩,
                      ⟨4, ⟨(some 47), .load 1 false (.tmp 46), none⟩, [3], 0⟩,
                      ⟨5, ⟨(some 48), .load 5 true (.tmp 3), none⟩, [], 0⟩,
                      ⟨6, ⟨(some 49), .off (.tmp 7) 3, none⟩, [], 0⟩,
                      ⟨7, ⟨(some 50), .load 1 false (.tmp 49), none⟩, [6], 0⟩,
                      ⟨8, ⟨(some 51), .call 30 [(.tmp 48), (.tmp 50)], none⟩, [5, 7, 6], 0⟩,
                      ⟨9, ⟨(some 52), .build [(.int .i64 0), (.int .i64 0), (.int .u64 0), (.int .u64 0)] [(0, 1, (.tmp 45)), (1, 1, (.tmp 47)), (2, 2, (.tmp 51))], none⟩, [2, 1, 4, 3, 8, 5, 7, 6], 0⟩,
                      ⟨10, ⟨(some 53), .bslice 1 [(.int .i64 0), (.int .i64 0), (.int .u64 0), (.int .u64 0)] [(0, 4, (.tmp 52))], none⟩, [9, 2, 1, 4, 3, 8, 5, 7, 6], 0⟩,
                      ⟨11, ⟨(some 54), .append 4 32 (.tmp 43) (.tmp 53), none⟩, [0, 10, 9, 2, 1, 4, 3, 8, 5, 7, 6], 1⟩,
                      ⟨12, ⟨(some 5), .move (.tmp 54), none⟩, [11, 0, 10, 9, 2, 1, 4, 3, 8, 5, 7, 6], 1⟩])
                    .skip)))))))))
           (.ops [
             ⟨(some 55), .bin .add (.tmp 11) (.const (.int .i64 1)), none⟩,
             ⟨(some 11), .move (.tmp 55), none⟩])))))))
     (.seq
      (.ops [
        ⟨(some 56), .move (.tmp 5), none⟩,
        ⟨(some 4), .move (.tmp 56), none⟩])
      .ret))))⟩
theorem t11_ok : goodFn Try.prog 11 = true ∧ cfn Try.prog 11 = t11 := ⟨by kernel_rfl, by kernel_rfl⟩

/-- matchguard/matchguardref16.Needs -/
def t12 : NFn := ⟨62, [(.tmp 4)],
  (.seq
   (.ops [
     ⟨(some 2), .box (.tmp 0), none⟩,
     ⟨(some 3), .box (.tmp 1), none⟩,
     ⟨(some 4), .move (.const (.slice none 0 (.fix 0))), none⟩])
   (.seq
    (.ops [
      ⟨(some 5), .move (.const (.slice none 0 (.fix 0))), none⟩])
    (.seq
     (.seq
      (.ops [
        ⟨(some 8), .off (.tmp 2) 7, none⟩,
        ⟨(some 9), .load 1 false (.tmp 8), none⟩,
        ⟨(some 10), .lenSl (.tmp 9), none⟩,
        ⟨(some 11), .move (.const (.int .i64 0)), none⟩])
      (.block 0
       (.loop
        (.seq
         (.ops [
           ⟨(some 12), .bin .lss (.tmp 11) (.tmp 10), none⟩])
         (.seq
          (.cond (.tmp 12)
           .skip
           (.exit 0))
          (.seq
           (.block 1
            (.seq
             (.ops [
               ⟨(some 13), .idxSl (.tmp 9) (.tmp 11) 6, none⟩,
               ⟨(some 14), .load 6 true (.tmp 13), none⟩,
               ⟨(some 7), .alloc [(.int .i64 0), (.int .i64 0), (.int .i64 0), (.int .i64 0), (.int .i64 0), (.int .i64 0)], none⟩,
               ⟨none, .store 6 (.tmp 7) (.tmp 14), none⟩])
             (.block 2
              (.seq
               (.ops [
                 ⟨(some 16), .off (.tmp 7) 0, none⟩,
                 ⟨(some 17), .load 1 false (.tmp 16), none⟩,
                 ⟨(some 18), .off (.tmp 3) 0, none⟩,
                 ⟨(some 19), .load 1 false (.tmp 18), none⟩,
                 ⟨(some 20), .bin .neq (.tmp 17) (.tmp 19), none⟩,
                 ⟨(some 15), .move (.tmp 20), none⟩])
               (.cond (.tmp 15)
                .skip
                (.seq
                 (.ops [
                   ⟨(some 22), .off (.tmp 7) 2, none⟩,
                   ⟨(some 23), .load 1 false (.tmp 22), none⟩,
                   ⟨(some 24), .bin .eql (.tmp 23) (.const (.int .i64 0)), none⟩,
                   ⟨(some 21), .move (.tmp 24), none⟩])
                 (.cond (.tmp 21)
                  (.draw 1 [
                    ⟨0, ⟨(some 25), .move (.tmp 5), none⟩, [], 0⟩,
                    ⟨1, ⟨(some 26), .off (.tmp 7) 4, none⟩, [], 0⟩,
                    ⟨2, ⟨(some 27), .load 1 false (.tmp 26), none⟩, [1], 0⟩,
                    ⟨3, ⟨(some 28), .off (.tmp 7) 5, none⟩, [], 0⟩,
                    ⟨4, ⟨(some 29), .load 1 false (.tmp 28), none⟩, [3], 0⟩,
                    ⟨5, ⟨(some 30), .off (.tmp 3) 1, none⟩, [], 0⟩,
                    ⟨6, ⟨(some 31), .load 1 false (.tmp 30), none⟩, [5], 0⟩,
                    ⟨7, ⟨(some 32), .off (.tmp 7) 1, none⟩, [], 0⟩,
                    ⟨8, ⟨(some 33), .load 1 false (.tmp 32), none⟩, [7], 0⟩,
                    ⟨9, ⟨(some 34), .idxSl (.tmp 31) (.tmp 33) 8, none⟩, [6, 5, 8, 7], 0⟩,
                    ⟨10, ⟨(some 35), .off (.tmp 34) 1, none⟩, [9, 6, 5, 8, 7], 0⟩,
                    ⟨11, ⟨(some 36), .load 2 true (.tmp 35), none⟩, [10, 9, 6, 5, 8, 7], 0⟩,
                    ⟨12, ⟨(some 37), .build [(.int .i64 0), (.int .i64 0), (.int .u64 0), (.int .u64 0)] [(0, 1, (.tmp 27)), (1, 1, (.tmp 29)), (2, 2, (.tmp 36))], none⟩, [2, 1, 4, 3, 11, 10, 9, 6, 5, 8, 7], 0⟩,
                    ⟨13, ⟨(some 38), .bslice 1 [(.int .i64 0), (.int .i64 0), (.int .u64 0), (.int .u64 0)] [(0, 4, (.tmp 37))], none⟩, [12, 2, 1, 4, 3, 11, 10, 9, 6, 5, 8, 7], 0⟩,
                    ⟨14, ⟨(some 39), .append 4 32 (.tmp 25) (.tmp 38), none⟩, [0, 13, 12, 2, 1, 4, 3, 11, 10, 9, 6, 5, 8, 7], 1⟩,
                    ⟨15, ⟨(some 5), .move (.tmp 39), none⟩, [14, 0, 13, 12, 2, 1, 4, 3, 11, 10, 9, 6, 5, 8, 7], 1⟩])
                  (.seq
                   (.ops [
                     ⟨(some 41), .off (.tmp 7) 2, none⟩,
                     ⟨(some 42), .load 1 false (.tmp 41), none⟩,
                     ⟨(some 43), .off (.tmp 3) 3, none⟩,
                     ⟨(some 44), .load 1 false (.tmp 43), none⟩,
                     ⟨(some 45), .bin .eql (.tmp 42) (.tmp 44), none⟩,
                     ⟨(some 40), .move (.tmp 45), none⟩])
                   (.cond (.tmp 40)
                    (.draw 1 [
                      ⟨0, ⟨(some 46), .move (.tmp 5), none⟩, [], 0⟩,
                      ⟨1, ⟨(some 47), .off (.tmp 7) 4, none⟩, [], 0⟩,
                      ⟨2, ⟨(some 48), .load 1 false (.tmp 47), none⟩, [1], 0⟩,
                      ⟨3, ⟨(some 49), .off (.tmp 7) 5, none⟩, [], 0⟩,
                      ⟨4, ⟨(some 50), .load 1 false (.tmp 49), none⟩, [3], 0⟩,
                      ⟨5, ⟨(some 51), .off (.tmp 3) 4, none⟩, [], 0⟩,
                      ⟨6, ⟨(some 52), .load 1 false (.tmp 51), none⟩, [5], 0⟩,
                      ⟨7, ⟨(some 53), .off (.tmp 7) 3, none⟩, [], 0⟩,
                      ⟨8, ⟨(some 54), .load 1 false (.tmp 53), none⟩, [7], 0⟩,
                      ⟨9, ⟨(some 55), .idxSl (.tmp 52) (.tmp 54) 2, none⟩, [6, 5, 8, 7], 0⟩,
                      ⟨10, ⟨(some 56), .load 2 true (.tmp 55), none⟩, [9, 6, 5, 8, 7], 0⟩,
                      ⟨11, ⟨(some 57), .build [(.int .i64 0), (.int .i64 0), (.int .u64 0), (.int .u64 0)] [(0, 1, (.tmp 48)), (1, 1, (.tmp 50)), (2, 2, (.tmp 56))], none⟩, [2, 1, 4, 3, 10, 9, 6, 5, 8, 7], 0⟩,
                      ⟨12, ⟨(some 58), .bslice 1 [(.int .i64 0), (.int .i64 0), (.int .u64 0), (.int .u64 0)] [(0, 4, (.tmp 57))], none⟩, [11, 2, 1, 4, 3, 10, 9, 6, 5, 8, 7], 0⟩,
                      ⟨13, ⟨(some 59), .append 4 32 (.tmp 46) (.tmp 58), none⟩, [0, 12, 11, 2, 1, 4, 3, 10, 9, 6, 5, 8, 7], 1⟩,
                      ⟨14, ⟨(some 5), .move (.tmp 59), none⟩, [13, 0, 12, 11, 2, 1, 4, 3, 10, 9, 6, 5, 8, 7], 1⟩])
                    .skip)))))))))
           (.ops [
             ⟨(some 60), .bin .add (.tmp 11) (.const (.int .i64 1)), none⟩,
             ⟨(some 11), .move (.tmp 60), none⟩])))))))
     (.seq
      (.ops [
        ⟨(some 61), .move (.tmp 5), none⟩,
        ⟨(some 4), .move (.tmp 61), none⟩])
      .ret))))⟩
theorem t12_ok : goodFn Try.prog 12 = true ∧ cfn Try.prog 12 = t12 := ⟨by kernel_rfl, by kernel_rfl⟩

/-- matchguard/refs.Provides -/
def t13 : NFn := ⟨42, [(.tmp 4)],
  (.seq
   (.ops [
     ⟨(some 2), .box (.tmp 0), none⟩,
     ⟨(some 3), .box (.tmp 1), none⟩,
     ⟨(some 4), .move (.const (.slice none 0 (.fix 0))), none⟩])
   (.seq
    (.ops [
      ⟨(some 5), .move (.const (.slice none 0 (.fix 0))), none⟩])
    (.seq
     (.seq
      (.ops [
        ⟨(some 9), .off (.tmp 2) 7, none⟩,
        ⟨(some 10), .load 1 false (.tmp 9), none⟩,
        ⟨(some 11), .lenSl (.tmp 10), none⟩,
        ⟨(some 12), .move (.const (.int .i64 0)), none⟩])
      (.block 0
       (.loop
        (.seq
         (.ops [
           ⟨(some 13), .bin .lss (.tmp 12) (.tmp 11), none⟩])
         (.seq
          (.cond (.tmp 13)
           .skip
           (.exit 0))
          (.seq
           (.block 1
            (.seq
             (.ops [
               ⟨(some 14), .idxSl (.tmp 10) (.tmp 12) 6, none⟩,
               ⟨(some 15), .load 6 true (.tmp 14), none⟩,
               ⟨(some 7), .alloc [(.int .i64 0), (.int .i64 0), (.int .i64 0), (.int .i64 0), (.int .i64 0), (.int .i64 0)], none⟩,
               ⟨none, .store 6 (.tmp 7) (.tmp 15), none⟩])
             (.seq
              (.draw 1 [
                ⟨0, ⟨(some 16), .off (.tmp 7) 4, none⟩, [], 0⟩,
                ⟨1, ⟨(some 17), .load 1 false (.tmp 16), none⟩, [0], 0⟩,
                ⟨2, ⟨(some 18), .off (.tmp 7) 5, none⟩, [], 0⟩,
                ⟨3, ⟨(some 19), .load 1 false (.tmp 18), none⟩, [2], 0⟩,
                ⟨4, ⟨(some 20), .load 5 true (.tmp 3), none⟩, [], 0⟩,
                ⟨5, ⟨(some 21), .off (.tmp 7) 5, none⟩, [], 0⟩,
                ⟨6, ⟨(some 22), .load 1 false (.tmp 21), none⟩, [5], 0⟩,
                ⟨7, ⟨(some 23), .call 29 [(.tmp 20), (.tmp 22)], none⟩, [4, 6, 5], 0⟩,
                ⟨8, ⟨(some 24), .build [(.int .i64 0), (.int .i64 0), (.int .u64 0), (.int .u64 0)] [(0, 1, (.tmp 17)), (1, 1, (.tmp 19)), (2, 2, (.tmp 23))], none⟩, [1, 0, 3, 2, 7, 4, 6, 5], 0⟩,
                ⟨9, ⟨(some 8), .alloc [(.int .i64 0), (.int .i64 0), (.int .u64 0), (.int .u64 0)], none⟩, [], 0⟩,
                ⟨10, ⟨none, .store 4 (.tmp 8) (.tmp 24), none⟩, [9, 8, 1, 0, 3, 2, 7, 4, 6, 5], 1⟩])
              (.seq
               (.ops [
                 ⟨(some 25), .off (.tmp 7) 4, none⟩,
                 ⟨(some 26), .load 1 false (.tmp 25), none⟩,
                 ⟨(some 27), .off (.tmp 3) 0, none⟩,
                 ⟨(some 28), .load 1 false (.tmp 27), none⟩,
                 ⟨(some 29), .bin .eql (.tmp 26) (.tmp 28), none⟩,
                 ⟨(some 30), .move (.tmp 29), none⟩,
                 ⟨(some 31), .move (.tmp 5), (some (30, true))⟩,
                 ⟨(some 32), .load 4 true (.tmp 8), (some (30, true))⟩,
                 ⟨(some 33), .call 31 [(.tmp 31), (.tmp 32)], (some (30, true))⟩,
                 ⟨(some 34), .un .not (.tmp 33), (some (30, true))⟩,
                 ⟨(some 35), .pick (.tmp 30) (.tmp 34) (.const (.bool false)), none⟩])
               (.cond (.tmp 35)
                (.ops [
                  ⟨(some 36), .move (.tmp 5), none⟩,
                  ⟨(some 37), .load 4 true (.tmp 8), none⟩,
                  ⟨(some 38), .bslice 1 [(.int .i64 0), (.int .i64 0), (.int .u64 0), (.int .u64 0)] [(0, 4, (.tmp 37))], none⟩,
                  ⟨(some 39), .append 4 32 (.tmp 36) (.tmp 38), none⟩,
                  ⟨(some 5), .move (.tmp 39), none⟩])
                .skip)))))
           (.ops [
             ⟨(some 40), .bin .add (.tmp 12) (.const (.int .i64 1)), none⟩,
             ⟨(some 12), .move (.tmp 40), none⟩])))))))
     (.seq
      (.ops [
        ⟨(some 41), .move (.tmp 5), none⟩,
        ⟨(some 4), .move (.tmp 41), none⟩])
      .ret))))⟩
theorem t13_ok : goodFn Try.prog 13 = true ∧ cfn Try.prog 13 = t13 := ⟨by kernel_rfl, by kernel_rfl⟩

/-- matchguard/matchguardref16.Provides -/
def t14 : NFn := ⟨57, [(.tmp 4)],
  (.seq
   (.ops [
     ⟨(some 2), .box (.tmp 0), none⟩,
     ⟨(some 3), .box (.tmp 1), none⟩,
     ⟨(some 4), .move (.const (.slice none 0 (.fix 0))), none⟩])
   (.seq
    (.ops [
      ⟨(some 5), .move (.const (.slice none 0 (.fix 0))), none⟩])
    (.seq
     (.seq
      (.ops [
        ⟨(some 12), .off (.tmp 2) 7, none⟩,
        ⟨(some 13), .load 1 false (.tmp 12), none⟩,
        ⟨(some 14), .lenSl (.tmp 13), none⟩,
        ⟨(some 15), .move (.const (.int .i64 0)), none⟩])
      (.block 0
       (.loop
        (.seq
         (.ops [
           ⟨(some 16), .bin .lss (.tmp 15) (.tmp 14), none⟩])
         (.seq
          (.cond (.tmp 16)
           .skip
           (.exit 0))
          (.seq
           (.block 1
            (.seq
             (.ops [
               ⟨(some 17), .idxSl (.tmp 13) (.tmp 15) 6, none⟩,
               ⟨(some 18), .load 6 true (.tmp 17), none⟩,
               ⟨(some 7), .alloc [(.int .i64 0), (.int .i64 0), (.int .i64 0), (.int .i64 0), (.int .i64 0), (.int .i64 0)], none⟩,
               ⟨none, .store 6 (.tmp 7) (.tmp 18), none⟩])
             (.seq
              (.seq
               (.ops [
                 ⟨(some 19), .off (.tmp 7) 4, none⟩,
                 ⟨(some 20), .load 1 false (.tmp 19), none⟩,
                 ⟨(some 21), .off (.tmp 3) 0, none⟩,
                 ⟨(some 22), .load 1 false (.tmp 21), none⟩,
                 ⟨(some 23), .bin .neq (.tmp 20) (.tmp 22), none⟩])
               (.cond (.tmp 23)
                (.exit 1)
                .skip))
              (.seq
               (.draw 1 [
                 ⟨0, ⟨(some 24), .off (.tmp 7) 4, none⟩, [], 0⟩,
                 ⟨1, ⟨(some 25), .load 1 false (.tmp 24), none⟩, [0], 0⟩,
                 ⟨2, ⟨(some 26), .off (.tmp 7) 5, none⟩, [], 0⟩,
                 ⟨3, ⟨(some 27), .load 1 false (.tmp 26), none⟩, [2], 0⟩,
                 ⟨4, ⟨(some 28), .off (.tmp 3) 1, none⟩, [], 0⟩,
                 ⟨5, ⟨(some 29), .load 1 false (.tmp 28), none⟩, [4], 0⟩,
                 ⟨6, ⟨(some 30), .off (.tmp 7) 5, none⟩, [], 0⟩,
                 ⟨7, ⟨(some 31), .load 1 false (.tmp 30), none⟩, [6], 0⟩,
                 ⟨8, ⟨(some 32), .idxSl (.tmp 29) (.tmp 31) 8, none⟩, [5, 4, 7, 6], 0⟩,
                 ⟨9, ⟨(some 33), .off (.tmp 32) 1, none⟩, [8, 5, 4, 7, 6], 0⟩,
                 ⟨10, ⟨(some 34), .load 2 true (.tmp 33), none⟩, [9, 8, 5, 4, 7, 6], 0⟩,
                 ⟨11, ⟨(some 35), .build [(.int .i64 0), (.int .i64 0), (.int .u64 0), (.int .u64 0)] [(0, 1, (.tmp 25)), (1, 1, (.tmp 27)), (2, 2, (.tmp 34))], none⟩, [1, 0, 3, 2, 10, 9, 8, 5, 4, 7, 6], 0⟩,
                 ⟨12, ⟨(some 8), .alloc [(.int .i64 0), (.int .i64 0), (.int .u64 0), (.int .u64 0)], none⟩, [], 0⟩,
                 ⟨13, ⟨none, .store 4 (.tmp 8) (.tmp 35), none⟩, [12, 11, 1, 0, 3, 2, 10, 9, 8, 5, 4, 7, 6], 1⟩])
               (.seq
                (.ops [
                  ⟨(some 9), .move (.const (.bool false)), none⟩])
                (.seq
                 (.seq
                  (.ops [
                    ⟨(some 36), .move (.tmp 5), none⟩,
                    ⟨(some 37), .lenSl (.tmp 36), none⟩,
                    ⟨(some 38), .move (.const (.int .i64 0)), none⟩])
                  (.block 2
                   (.loop
                    (.seq
                     (.ops [
                       ⟨(some 39), .bin .lss (.tmp 38) (.tmp 37), none⟩])
                     (.seq
                      (.cond (.tmp 39)
                       .skip
                       (.exit 2))
                      (.seq
                       (.block 3
                        (.seq
                         (.ops [
                           ⟨(some 40), .idxSl (.tmp 36) (.tmp 38) 4, none⟩,
                           ⟨(some 41), .load 4 true (.tmp 40), none⟩,
                           ⟨(some 11), .alloc [(.int .i64 0), (.int .i64 0), (.int .u64 0), (.int .u64 0)], none⟩,
                           ⟨none, .store 4 (.tmp 11) (.tmp 41), none⟩])
                         (.ops [
                           ⟨(some 42), .move (.tmp 9), none⟩,
                           ⟨(some 43), .move (.tmp 42), none⟩,
                           ⟨(some 44), .load 4 true (.tmp 11), (some (43, false))⟩,
                           ⟨(some 45), .load 4 true (.tmp 8), (some (43, false))⟩,
                           ⟨(some 46), .eq false true [.int, .int, .int, .int] (.tmp 44) (.tmp 45), (some (43, false))⟩,
                           ⟨(some 47), .pick (.tmp 43) (.const (.bool true)) (.tmp 46), none⟩,
                           ⟨(some 9), .move (.tmp 47), none⟩])))
                       (.ops [
                         ⟨(some 48), .bin .add (.tmp 38) (.const (.int .i64 1)), none⟩,
                         ⟨(some 38), .move (.tmp 48), none⟩])))))))
                 (.seq
                  (.ops [
                    ⟨(some 49), .move (.tmp 9), none⟩,
                    ⟨(some 50), .un .not (.tmp 49), none⟩])
                  (.cond (.tmp 50)
                   (.ops [
                     ⟨(some 51), .move (.tmp 5), none⟩,
                     ⟨(some 52), .load 4 true (.tmp 8), none⟩,
                     ⟨(some 53), .bslice 1 [(.int .i64 0), (.int .i64 0), (.int .u64 0), (.int .u64 0)] [(0, 4, (.tmp 52))], none⟩,
                     ⟨(some 54), .append 4 32 (.tmp 51) (.tmp 53), none⟩,
                     ⟨(some 5), .move (.tmp 54), none⟩])
                   .skip))))))))
           (.ops [
             ⟨(some 55), .bin .add (.tmp 15) (.const (.int .i64 1)), none⟩,
             ⟨(some 15), .move (.tmp 55), none⟩])))))))
     (.seq
      (.ops [
        ⟨(some 56), .move (.tmp 5), none⟩,
        ⟨(some 4), .move (.tmp 56), none⟩])
      .ret))))⟩
theorem t14_ok : goodFn Try.prog 14 = true ∧ cfn Try.prog 14 = t14 := ⟨by kernel_rfl, by kernel_rfl⟩

/-- matchguard/matchguardlaw16.begun -/
def t15 : NFn := ⟨25, [(.tmp 0)],
  (.seq
   (.ops [
     ⟨(some 0), .move (.const (.bool false)), none⟩])
   (.seq
    (.ops [
      ⟨(some 3), .call 8 [(.const (.slice none 0 (.fix 0))), (.const (.int .i64 0))], none⟩,
      ⟨(some 4), .call 28 [(.tmp 3)], none⟩,
      ⟨(some 1), .alloc [(.slice none 0 (.fix 0)), (.slice none 0 (.fix 0)), (.slice none 0 (.fix 0)), (.slice none 0 (.fix 0)), (.slice none 0 (.fix 0)), (.slice none 0 (.fix 0)), (.slice none 0 (.fix 0)), (.slice none 0 (.fix 0)), (.int .i64 0), (.int .i64 0)], none⟩,
      ⟨none, .store 10 (.tmp 1) (.tmp 4), none⟩])
    (.seq
     (.ops [
       ⟨(some 5), .build [(.int .i64 0), (.int .i64 0), (.int .i64 0), (.int .i64 0), (.int .i64 0), (.int .i64 0)] [(0, 1, (.const (.int .i64 2))), (2, 1, (.const (.int .i64 4))), (4, 1, (.const (.int .i64 1)))], none⟩,
       ⟨(some 6), .bslice 1 [(.int .i64 0), (.int .i64 0), (.int .i64 0), (.int .i64 0), (.int .i64 0), (.int .i64 0)] [(0, 6, (.tmp 5))], none⟩,
       ⟨(some 7), .off (.tmp 1) 7, none⟩,
       ⟨none, .store 1 (.tmp 7) (.tmp 6), none⟩])
     (.seq
      (.draw 2 [
        ⟨0, ⟨(some 8), .load 10 true (.tmp 1), none⟩, [], 0⟩,
        ⟨1, ⟨(some 9), .mkslice 8 64 [(.bool false), (.int .u64 0), (.int .u64 0), (.int .u64 0), (.int .u64 0), (.int .i64 0), (.int .u64 0), (.int .u64 0)] (.const (.int .i64 1)) (.const (.int .i64 1)), none⟩, [], 0⟩,
        ⟨2, ⟨(some 10), .build [(.int .u64 0), (.int .u64 0)] [(1, 1, (.const (.int .u64 5)))], none⟩, [], 1⟩,
        ⟨3, ⟨(some 11), .bslice 1 [(.int .u64 0), (.int .u64 0)] [(0, 2, (.tmp 10))], none⟩, [2], 1⟩,
        ⟨4, ⟨(some 12), .build [(.int .i64 0), (.slice none 0 (.fix 0)), (.int .i64 0), (.int .i64 0), (.slice none 0 (.fix 0))] [(0, 1, (.const (.int .i64 2))), (1, 1, (.tmp 9)), (3, 1, (.const (.int .i64 4))), (4, 1, (.tmp 11))], none⟩, [1, 3, 2], 2⟩,
        ⟨5, ⟨(some 13), .call 11 [(.tmp 8), (.tmp 12)], none⟩, [0, 4, 1, 3, 2], 2⟩,
        ⟨6, ⟨(some 2), .move (.tmp 13), none⟩, [5, 0, 4, 1, 3, 2], 2⟩])
      (.seq
       (.ops [
         ⟨(some 14), .move (.tmp 2), none⟩,
         ⟨(some 15), .lenSl (.tmp 14), none⟩,
         ⟨(some 16), .bin .eql (.tmp 15) (.const (.int .i64 1)), none⟩,
         ⟨(some 17), .move (.tmp 16), none⟩,
         ⟨(some 18), .move (.tmp 2), (some (17, true))⟩,
         ⟨(some 19), .idxSl (.tmp 18) (.const (.int .i64 0)) 4, (some (17, true))⟩,
         ⟨(some 20), .load 4 true (.tmp 19), (some (17, true))⟩,
         ⟨(some 21), .build [(.int .u64 0), (.int .u64 0)] [(1, 1, (.const (.int .u64 5)))], (some (17, true))⟩,
         ⟨(some 22), .build [(.int .i64 0), (.int .i64 0), (.int .u64 0), (.int .u64 0)] [(0, 1, (.const (.int .i64 1))), (2, 2, (.tmp 21))], (some (17, true))⟩,
         ⟨(some 23), .eq false true [.int, .int, .int, .int] (.tmp 20) (.tmp 22), (some (17, true))⟩,
         ⟨(some 24), .pick (.tmp 17) (.tmp 23) (.const (.bool false)), none⟩,
         ⟨(some 0), .move (.tmp 24), none⟩])
       .ret)))))⟩
theorem t15_ok : goodFn Try.prog 15 = true ∧ cfn Try.prog 15 = t15 := ⟨by kernel_rfl, by kernel_rfl⟩

/-- (*matchguard/matchguardcase.Codes).Left -/
def t19 : NFn := ⟨13, [(.tmp 2)],
  (.seq
   (.ops [
     ⟨(some 2), .move (.const (.bool false)), none⟩])
   (.seq
    (.draw 0 [
      ⟨0, ⟨(some 3), .move (.tmp 0), none⟩, [], 0⟩,
      ⟨1, ⟨(some 4), .nilCheck (.tmp 3), none⟩, [0], 0⟩,
      ⟨2, ⟨(some 5), .off (.tmp 4) 1, none⟩, [1, 0], 0⟩,
      ⟨3, ⟨(some 6), .load 1 false (.tmp 5), none⟩, [2, 1, 0], 0⟩,
      ⟨4, ⟨(some 7), .move (.tmp 0), none⟩, [], 0⟩,
      ⟨5, ⟨(some 8), .nilCheck (.tmp 7), none⟩, [4], 0⟩,
      ⟨6, ⟨(some 9), .off (.tmp 8) 0, none⟩, [5, 4], 0⟩,
      ⟨7, ⟨(some 10), .load 1 false (.tmp 9), none⟩, [6, 5, 4], 0⟩,
      ⟨8, ⟨(some 11), .lenSl (.tmp 10), none⟩, [7, 6, 5, 4], 0⟩,
      ⟨9, ⟨(some 12), .bin .lss (.tmp 6) (.tmp 11), none⟩, [3, 2, 1, 0, 8, 7, 6, 5, 4], 0⟩,
      ⟨10, ⟨(some 2), .move (.tmp 12), none⟩, [9, 3, 2, 1, 0, 8, 7, 6, 5, 4], 0⟩])
    .ret))⟩
theorem t19_ok : goodFn Try.prog 19 = true ∧ cfn Try.prog 19 = t19 := ⟨by kernel_rfl, by kernel_rfl⟩

/-- (*matchguard/matchguardcase.Codes).Next -/
def t20 : NFn := ⟨33, [(.tmp 4)],
  (.seq
   (.ops [
     ⟨(some 4), .move (.const (.int .i64 0)), none⟩])
   (.seq
    (.seq
     (.ops [
       ⟨(some 5), .move (.tmp 0), none⟩,
       ⟨(some 6), .call 19 [(.tmp 5)], none⟩,
       ⟨(some 7), .un .not (.tmp 6), none⟩,
       ⟨(some 8), .move (.tmp 7), none⟩,
       ⟨(some 9), .move (.tmp 1), (some (8, false))⟩,
       ⟨(some 10), .bin .lss (.tmp 9) (.const (.int .i64 1)), (some (8, false))⟩,
       ⟨(some 11), .pick (.tmp 8) (.const (.bool true)) (.tmp 10), none⟩])
     (.cond (.tmp 11)
      (.seq
       (.ops [
         ⟨(some 4), .move (.const (.int .i64 0)), none⟩])
       .ret)
      .skip))
    (.seq
     (.ops [
       ⟨(some 12), .move (.tmp 0), none⟩,
       ⟨(some 13), .nilCheck (.tmp 12), none⟩,
       ⟨(some 14), .off (.tmp 13) 1, none⟩,
       ⟨(some 15), .load 1 false (.tmp 14), none⟩,
       ⟨(some 16), .bin .add (.tmp 15) (.const (.int .i64 1)), none⟩,
       ⟨(some 17), .nilCheck (.tmp 12), none⟩,
       ⟨(some 18), .off (.tmp 17) 1, none⟩,
       ⟨none, .store 1 (.tmp 18) (.tmp 16), none⟩])
     (.seq
      (.draw 0 [
        ⟨0, ⟨(some 19), .move (.tmp 0), none⟩, [], 0⟩,
        ⟨1, ⟨(some 20), .nilCheck (.tmp 19), none⟩, [0], 0⟩,
        ⟨2, ⟨(some 21), .off (.tmp 20) 0, none⟩, [1, 0], 0⟩,
        ⟨3, ⟨(some 22), .load 1 false (.tmp 21), none⟩, [2, 1, 0], 0⟩,
        ⟨4, ⟨(some 23), .move (.tmp 0), none⟩, [], 0⟩,
        ⟨5, ⟨(some 24), .nilCheck (.tmp 23), none⟩, [4], 0⟩,
        ⟨6, ⟨(some 25), .off (.tmp 24) 1, none⟩, [5, 4], 0⟩,
        ⟨7, ⟨(some 26), .load 1 false (.tmp 25), none⟩, [6, 5, 4], 0⟩,
        ⟨8, ⟨(some 27), .bin .sub (.tmp 26) (.const (.int .i64 1)), none⟩, [7, 6, 5, 4], 0⟩,
        ⟨9, ⟨(some 28), .idxSl (.tmp 22) (.tmp 27) 1, none⟩, [3, 2, 1, 0, 8, 7, 6, 5, 4], 0⟩,
        ⟨10, ⟨(some 29), .load 1 false (.tmp 28), none⟩, [9, 3, 2, 1, 0, 8, 7, 6, 5, 4], 0⟩,
        ⟨11, ⟨(some 30), .conv .i64 (.tmp 29), none⟩, [10, 9, 3, 2, 1, 0, 8, 7, 6, 5, 4], 0⟩,
        ⟨12, ⟨(some 31), .move (.tmp 1), none⟩, [], 0⟩,
        ⟨13, ⟨(some 32), .bin .rem (.tmp 30) (.tmp 31), none⟩, [11, 10, 9, 3, 2, 1, 0, 8, 7, 6, 5, 4, 12], 0⟩,
        ⟨14, ⟨(some 4), .move (.tmp 32), none⟩, [13, 11, 10, 9, 3, 2, 1, 0, 8, 7, 6, 5, 4, 12], 0⟩])
      .ret))))⟩
theorem t20_ok : goodFn Try.prog 20 = true ∧ cfn Try.prog 20 = t20 := ⟨by kernel_rfl, by kernel_rfl⟩

/-- (*matchguard/matchguardcase.Codes).Entry -/
def t22 : NFn := ⟨88, [(.cell 6 5 true)],
  (.seq
   (.ops [
     ⟨(some 4), .box (.tmp 1), none⟩,
     ⟨(some 6), .alloc [(.int .i64 0), (.slice none 0 (.fix 0)), (.int .i64 0), (.int .i64 0), (.slice none 0 (.fix 0))], none⟩])
   (.seq
    (.draw 1 [
      ⟨0, ⟨(some 13), .off (.tmp 4) 4, none⟩, [], 0⟩,
      ⟨1, ⟨(some 14), .load 1 false (.tmp 13), none⟩, [0], 0⟩,
      ⟨2, ⟨(some 15), .move (.tmp 2), none⟩, [], 0⟩,
      ⟨3, ⟨(some 16), .off (.tmp 4) 4, none⟩, [], 0⟩,
      ⟨4, ⟨(some 17), .load 1 false (.tmp 16), none⟩, [3], 0⟩,
      ⟨5, ⟨(some 18), .lenSl (.tmp 17), none⟩, [4, 3], 0⟩,
      ⟨6, ⟨(some 19), .call 27 [(.tmp 15), (.tmp 18)], none⟩, [2, 5, 4, 3], 0⟩,
      ⟨7, ⟨(some 20), .idxSl (.tmp 14) (.tmp 19) 8, none⟩, [1, 0, 6, 2, 5, 4, 3], 0⟩,
      ⟨8, ⟨(some 21), .load 8 true (.tmp 20), none⟩, [7, 1, 0, 6, 2, 5, 4, 3], 0⟩,
      ⟨9, ⟨(some 7), .alloc [(.int .i64 0), (.str ⟨#[]⟩), (.slice none 0 (.fix 0)), (.slice none 0 (.fix 0)), (.int .i64 0), (.slice none 0 (.fix 0)), (.int .i64 0), (.str ⟨#[]⟩)], none⟩, [], 0⟩,
      ⟨10, ⟨none, .store 8 (.tmp 7) (.tmp 21), none⟩, [9, 8, 7, 1, 0, 6, 2, 5, 4, 3], 1⟩])
    (.seq
     (.ops [
       ⟨(some 22), .off (.tmp 7) 0, none⟩,
       ⟨(some 23), .load 1 false (.tmp 22), none⟩,
       ⟨(some 24), .build [(.int .i64 0), (.slice none 0 (.fix 0)), (.int .i64 0), (.int .i64 0), (.slice none 0 (.fix 0))] [(0, 1, (.tmp 23))], none⟩,
       ⟨(some 8), .alloc [(.int .i64 0), (.slice none 0 (.fix 0)), (.int .i64 0), (.int .i64 0), (.slice none 0 (.fix 0))], none⟩,
       ⟨none, .store 5 (.tmp 8) (.tmp 24), none⟩])
     (.seq
      (.seq
       (.ops [
         ⟨(some 25), .off (.tmp 7) 2, none⟩,
         ⟨(some 26), .load 1 false (.tmp 25), none⟩,
         ⟨(some 27), .lenSl (.tmp 26), none⟩,
         ⟨(some 28), .move (.const (.int .i64 0)), none⟩])
       (.block 0
        (.loop
         (.seq
          (.ops [
            ⟨(some 29), .bin .lss (.tmp 28) (.tmp 27), none⟩])
          (.seq
           (.cond (.tmp 29)
            .skip
            (.exit 0))
           (.seq
            (.block 1
             (.seq
              (.ops [
                ⟨(some 30), .idxSl (.tmp 26) (.tmp 28) 3, none⟩,
                ⟨(some 31), .load 3 true (.tmp 30), none⟩,
                ⟨(some 10), .alloc [(.str ⟨#[]⟩), (.int .i64 0), (.int .i64 0)], none⟩,
                ⟨none, .store 3 (.tmp 10) (.tmp 31), none⟩])
              (.seq
               (.draw 1 [
                 ⟨0, ⟨(some 32), .off (.tmp 8) 1, none⟩, [], 0⟩,
                 ⟨1, ⟨(some 33), .load 1 false (.tmp 32), none⟩, [0], 0⟩,
                 ⟨2, ⟨(some 34), .move (.tmp 0), none⟩, [], 0⟩,
                 ⟨3, ⟨(some 35), .load 10 true (.tmp 4), none⟩, [], 0⟩,
                 ⟨4, ⟨(some 36), .load 3 true (.tmp 10), none⟩, [], 0⟩,
                 ⟨5, ⟨(some 37), .call 33 [(.tmp 34), (.tmp 35), (.tmp 36)], none⟩, [2, 3, 4], 0⟩,
                 ⟨6, ⟨(some 38), .bslice 1 [(.bool false), (.int .u64 0), (.int .u64 0), (.int .u64 0), (.int .u64 0), (.int .i64 0), (.int .u64 0), (.int .u64 0)] [(0, 8, (.tmp 37))], none⟩, [5, 2, 3, 4], 0⟩,
                 ⟨7, ⟨(some 39), .append 8 64 (.tmp 33) (.tmp 38), none⟩, [1, 0, 6, 5, 2, 3, 4], 1⟩,
                 ⟨8, ⟨(some 40), .off (.tmp 8) 1, none⟩, [0, 1, 2, 3, 4, 5, 6, 7], 1⟩,
                 ⟨9, ⟨none, .store 1 (.tmp 40) (.tmp 39), none⟩, [8, 0, 1, 2, 3, 4, 5, 6, 7], 1⟩])
               (.seq
                (.ops [
                  ⟨(some 41), .off (.tmp 10) 2, none⟩,
                  ⟨(some 42), .load 1 false (.tmp 41), none⟩,
                  ⟨(some 43), .bin .eql (.tmp 42) (.const (.int .i64 3)), none⟩,
                  ⟨(some 44), .move (.tmp 43), none⟩,
                  ⟨(some 45), .off (.tmp 10) 2, (some (44, false))⟩,
                  ⟨(some 46), .load 1 false (.tmp 45), (some (44, false))⟩,
                  ⟨(some 47), .bin .eql (.tmp 46) (.const (.int .i64 4)), (some (44, false))⟩,
                  ⟨(some 48), .pick (.tmp 44) (.const (.bool true)) (.tmp 47), none⟩])
                (.cond (.tmp 48)
                 (.ops [
                   ⟨(some 49), .move (.tmp 0), none⟩,
                   ⟨(some 50), .call 20 [(.tmp 49), (.const (.int .i64 5))], none⟩,
                   ⟨(some 51), .bin .add (.const (.int .i64 1)) (.tmp 50), none⟩,
                   ⟨(some 52), .off (.tmp 8) 2, none⟩,
                   ⟨none, .store 1 (.tmp 52) (.tmp 51), none⟩])
                 .skip)))))
            (.ops [
              ⟨(some 53), .bin .add (.tmp 28) (.const (.int .i64 1)), none⟩,
              ⟨(some 28), .move (.tmp 53), none⟩])))))))
      (.seq
       (.draw 0 [
         ⟨0, ⟨(some 54), .off (.tmp 7) 3, none⟩, [], 0⟩,
         ⟨1, ⟨(some 55), .load 1 false (.tmp 54), none⟩, [0], 0⟩,
         ⟨2, ⟨(some 56), .move (.tmp 0), none⟩, [], 0⟩,
         ⟨3, ⟨(some 57), .off (.tmp 7) 3, none⟩, [], 0⟩,
         ⟨4, ⟨(some 58), .load 1 false (.tmp 57), none⟩, [3], 0⟩,
         ⟨5, ⟨(some 59), .lenSl (.tmp 58), none⟩, [4, 3], 0⟩,
         ⟨6, ⟨(some 60), .call 20 [(.tmp 56), (.tmp 59)], none⟩, [2, 5, 4, 3], 0⟩,
         ⟨7, ⟨(some 61), .idxSl (.tmp 55) (.tmp 60) 1, none⟩, [1, 0, 6, 2, 5, 4, 3], 0⟩,
         ⟨8, ⟨(some 62), .load 1 false (.tmp 61), none⟩, [7, 1, 0, 6, 2, 5, 4, 3], 0⟩,
         ⟨9, ⟨(some 63), .off (.tmp 8) 3, none⟩, [0, 1, 2, 3, 4, 5, 6, 7, 8], 0⟩,
         ⟨10, ⟨none, .store 1 (.tmp 63) (.tmp 62), none⟩, [9, 0, 1, 2, 3, 4, 5, 6, 7, 8], 0⟩])
       (.seq
        (.seq
         (.ops [
           ⟨(some 64), .load 10 true (.tmp 4), none⟩,
           ⟨(some 65), .off (.tmp 8) 3, none⟩,
           ⟨(some 66), .load 1 false (.tmp 65), none⟩,
           ⟨(some 67), .call 34 [(.tmp 64), (.tmp 66)], none⟩,
           ⟨(some 68), .fieldv (.tmp 67) 2 1 false, none⟩,
           ⟨(some 69), .lenSl (.tmp 68), none⟩,
           ⟨(some 70), .move (.const (.int .i64 0)), none⟩])
         (.block 2
          (.loop
           (.seq
            (.ops [
              ⟨(some 71), .bin .lss (.tmp 70) (.tmp 69), none⟩])
            (.seq
             (.cond (.tmp 71)
              .skip
              (.exit 2))
             (.seq
              (.block 3
               (.seq
                (.ops [
                  ⟨(some 72), .idxSl (.tmp 68) (.tmp 70) 2, none⟩,
                  ⟨(some 73), .load 2 true (.tmp 72), none⟩,
                  ⟨(some 12), .alloc [(.str ⟨#[]⟩), (.int .i64 0)], none⟩,
                  ⟨none, .store 2 (.tmp 12) (.tmp 73), none⟩])
                (.draw 1 [
                  ⟨0, ⟨(some 74), .off (.tmp 8) 4, none⟩, [], 0⟩,
                  ⟨1, ⟨(some 75), .load 1 false (.tmp 74), none⟩, [0], 0⟩,
                  ⟨2, ⟨(some 76), .move (.tmp 0), none⟩, [], 0⟩,
                  ⟨3, ⟨(some 77), .call 20 [(.tmp 76), (.const (.int .i64 256))], none⟩, [2], 0⟩,
                  ⟨4, ⟨(some 78), .conv .u64 (.tmp 77), none⟩, [3, 2], 0⟩,
                  ⟨5, ⟨(some 79), .build [(.int .u64 0), (.int .u64 0)] [(1, 1, (.tmp 78))], none⟩, [4, 3, 2], 0⟩,
                  ⟨6, ⟨(some 80), .off (.tmp 12) 1, none⟩, [], 0⟩,
                  ⟨7, ⟨(some 81), .load 1 false (.tmp 80), none⟩, [6], 0⟩,
                  ⟨8, ⟨(some 82), .call 35 [(.tmp 79), (.tmp 81)], none⟩, [5, 4, 3, 2, 7, 6], 0⟩,
                  ⟨9, ⟨(some 83), .bslice 1 [(.int .u64 0), (.int .u64 0)] [(0, 2, (.tmp 82))], none⟩, [8, 5, 4, 3, 2, 7, 6], 0⟩,
                  ⟨10, ⟨(some 84), .append 2 16 (.tmp 75) (.tmp 83), none⟩, [1, 0, 9, 8, 5, 4, 3, 2, 7, 6], 1⟩,
                  ⟨11, ⟨(some 85), .off (.tmp 8) 4, none⟩, [0, 1, 2, 3, 4, 5, 6, 7, 8, 9, 10], 1⟩,
                  ⟨12, ⟨none, .store 1 (.tmp 85) (.tmp 84), none⟩, [11, 0, 1, 2, 3, 4, 5, 6, 7, 8, 9, 10], 1⟩])))
              (.ops [
                ⟨(some 86), .bin .add (.tmp 70) (.const (.int .i64 1)), none⟩,
                ⟨(some 70), .move (.tmp 86), none⟩])))))))
        (.seq
         (.ops [
           ⟨(some 87), .load 5 true (.tmp 8), none⟩,
           ⟨none, .store 5 (.tmp 6) (.tmp 87), none⟩])
         .ret)))))))⟩
theorem t22_ok : goodFn Try.prog 22 = true ∧ cfn Try.prog 22 = t22 := ⟨by kernel_rfl, by kernel_rfl⟩

/-- matchguard/matchguardcase.Mod -/
def t27 : NFn := ⟨14, [(.tmp 4)],
  (.seq
   (.ops [
     ⟨(some 4), .move (.const (.int .i64 0)), none⟩])
   (.seq
    (.seq
     (.ops [
       ⟨(some 5), .move (.tmp 1), none⟩,
       ⟨(some 6), .bin .lss (.tmp 5) (.const (.int .i64 1)), none⟩])
     (.cond (.tmp 6)
      (.seq
       (.ops [
         ⟨(some 4), .move (.const (.int .i64 0)), none⟩])
       .ret)
      .skip))
    (.seq
     (.ops [
       ⟨(some 7), .move (.tmp 0), none⟩,
       ⟨(some 8), .move (.tmp 1), none⟩,
       ⟨(some 9), .bin .rem (.tmp 7) (.tmp 8), none⟩,
       ⟨(some 10), .move (.tmp 1), none⟩,
       ⟨(some 11), .bin .add (.tmp 9) (.tmp 10), none⟩,
       ⟨(some 12), .move (.tmp 1), none⟩,
       ⟨(some 13), .bin .rem (.tmp 11) (.tmp 12), none⟩,
       ⟨(some 4), .move (.tmp 13), none⟩])
     .ret)))⟩
theorem t27_ok : goodFn Try.prog 27 = true ∧ cfn Try.prog 27 = t27 := ⟨by kernel_rfl, by kernel_rfl⟩

/-- (*matchguard/matchguardcase.Codes).Schema -/
def t28 : NFn := ⟨102, [(.cell 2 10 true)],
  (.seq
   (.ops [
     ⟨(some 2), .alloc [(.slice none 0 (.fix 0)), (.slice none 0 (.fix 0)), (.slice none 0 (.fix 0)), (.slice none 0 (.fix 0)), (.slice none 0 (.fix 0)), (.slice none 0 (.fix 0)), (.slice none 0 (.fix 0)), (.slice none 0 (.fix 0)), (.int .i64 0), (.int .i64 0)], none⟩])
   (.seq
    (.ops [
      ⟨(some 4), .move (.tmp 0), none⟩,
      ⟨(some 5), .call 20 [(.tmp 4), (.const (.int .i64 8))], none⟩,
      ⟨(some 6), .bin .add (.const (.int .i64 2)) (.tmp 5), none⟩,
      ⟨(some 7), .move (.tmp 0), none⟩,
      ⟨(some 8), .call 20 [(.tmp 7), (.const (.int .i64 30))], none⟩,
      ⟨(some 9), .bin .add (.const (.int .i64 12)) (.tmp 8), none⟩,
      ⟨(some 10), .build [(.slice none 0 (.fix 0)), (.slice none 0 (.fix 0)), (.slice none 0 (.fix 0)), (.slice none 0 (.fix 0)), (.slice none 0 (.fix 0)), (.slice none 0 (.fix 0)), (.slice none 0 (.fix 0)), (.slice none 0 (.fix 0)), (.int .i64 0), (.int .i64 0)] [(8, 1, (.tmp 6)), (9, 1, (.tmp 9))], none⟩,
      ⟨(some 3), .alloc [(.slice none 0 (.fix 0)), (.slice none 0 (.fix 0)), (.slice none 0 (.fix 0)), (.slice none 0 (.fix 0)), (.slice none 0 (.fix 0)), (.slice none 0 (.fix 0)), (.slice none 0 (.fix 0)), (.slice none 0 (.fix 0)), (.int .i64 0), (.int .i64 0)], none⟩,
      ⟨none, .store 10 (.tmp 3) (.tmp 10), none⟩])
    (.seq
     (.ops [
       ⟨(some 11), .build [(.int .i64 0), (.str ⟨#[]⟩), (.int .i64 0)] [(0, 1, (.const (.int .i64 1))), (1, 1, (.const (.str ⟨#[105, 110, 103, 114, 101, 115, 115]⟩))), (2, 1, (.const (.int .i64 16)))], none⟩,
       ⟨(some 12), .build [(.int .i64 0), (.str ⟨#[]⟩), (.int .i64 0)] [(0, 1, (.const (.int .i64 2))), (1, 1, (.const (.str ⟨#[101, 103, 114, 101, 115, 115]⟩))), (2, 1, (.const (.int .i64 16)))], none⟩,
       ⟨(some 13), .build [(.int .i64 0), (.str ⟨#[]⟩), (.int .i64 0)] [(0, 1, (.const (.int .i64 3))), (1, 1, (.const (.str ⟨#[109, 101, 116, 97]⟩))), (2, 1, (.const (.int .i64 8)))], none⟩,
       ⟨(some 14), .build [(.int .i64 0), (.str ⟨#[]⟩), (.int .i64 0)] [(0, 1, (.const (.int .i64 4))), (1, 1, (.const (.str ⟨#[97]⟩))), (2, 1, (.const (.int .i64 4)))], none⟩,
       ⟨(some 15), .build [(.int .i64 0), (.str ⟨#[]⟩), (.int .i64 0)] [(0, 1, (.const (.int .i64 5))), (1, 1, (.const (.str ⟨#[98]⟩))), (2, 1, (.const (.int .i64 4)))], none⟩,
       ⟨(some 16), .build [(.int .i64 0), (.str ⟨#[]⟩), (.int .i64 0)] [(0, 1, (.const (.int .i64 6))), (1, 1, (.const (.str ⟨#[101]⟩))), (2, 1, (.const (.int .i64 8)))], none⟩,
       ⟨(some 17), .build [(.int .i64 0), (.str ⟨#[]⟩), (.int .i64 0)] [(0, 1, (.const (.int .i64 7))), (1, 1, (.const (.str ⟨#[100]⟩))), (2, 1, (.const (.int .i64 32)))], none⟩,
       ⟨(some 18), .build [(.int .i64 0), (.str ⟨#[]⟩), (.int .i64 0)] [(0, 1, (.const (.int .i64 8))), (1, 1, (.const (.str ⟨#[102]⟩))), (2, 1, (.const (.int .i64 12)))], none⟩,
       ⟨(some 19), .build [(.int .i64 0), (.str ⟨#[]⟩), (.int .i64 0)] [(0, 1, (.const (.int .i64 9))), (1, 1, (.const (.str ⟨#[103]⟩))), (2, 1, (.const (.int .i64 4)))], none⟩,
       ⟨(some 20), .bslice 9 [(.int .i64 0), (.str ⟨#[]⟩), (.int .i64 0), (.int .i64 0), (.str ⟨#[]⟩), (.int .i64 0), (.int .i64 0), (.str ⟨#[]⟩), (.int .i64 0), (.int .i64 0), (.str ⟨#[]⟩), (.int .i64 0), (.int .i64 0), (.str ⟨#[]⟩), (.int .i64 0), (.int .i64 0), (.str ⟨#[]⟩), (.int .i64 0), (.int .i64 0), (.str ⟨#[]⟩), (.int .i64 0), (.int .i64 0), (.str ⟨#[]⟩), (.int .i64 0), (.int .i64 0), (.str ⟨#[]⟩), (.int .i64 0)] [(0, 3, (.tmp 11)), (3, 3, (.tmp 12)), (6, 3, (.tmp 13)), (9, 3, (.tmp 14)), (12, 3, (.tmp 15)), (15, 3, (.tmp 16)), (18, 3, (.tmp 17)), (21, 3, (.tmp 18)), (24, 3, (.tmp 19))], none⟩,
       ⟨(some 21), .off (.tmp 3) 0, none⟩,
       ⟨none, .store 1 (.tmp 21) (.tmp 20), none⟩])
     (.seq
      (.ops [
        ⟨(some 22), .bslice 3 [(.int .i64 0), (.int .i64 0), (.int .i64 0)] [(0, 1, (.const (.int .i64 4))), (1, 1, (.const (.int .i64 5))), (2, 1, (.const (.int .i64 6)))], none⟩,
        ⟨(some 23), .build [(.int .i64 0), (.str ⟨#[]⟩), (.slice none 0 (.fix 0))] [(0, 1, (.const (.int .i64 1))), (1, 1, (.const (.str ⟨#[111, 110, 101]⟩))), (2, 1, (.tmp 22))], none⟩,
        ⟨(some 24), .bslice 1 [(.int .i64 0)] [(0, 1, (.const (.int .i64 7)))], none⟩,
        ⟨(some 25), .build [(.int .i64 0), (.str ⟨#[]⟩), (.slice none 0 (.fix 0))] [(0, 1, (.const (.int .i64 2))), (1, 1, (.const (.str ⟨#[116, 119, 111]⟩))), (2, 1, (.tmp 24))], none⟩,
        ⟨(some 26), .bslice 2 [(.int .i64 0), (.int .i64 0)] [(0, 1, (.const (.int .i64 8))), (1, 1, (.const (.int .i64 9)))], none⟩,
        ⟨(some 27), .build [(.int .i64 0), (.str ⟨#[]⟩), (.slice none 0 (.fix 0))] [(0, 1, (.const (.int .i64 3))), (1, 1, (.const (.str ⟨#[116, 104, 114, 101, 101]⟩))), (2, 1, (.tmp 26))], none⟩,
        ⟨(some 28), .bslice 3 [(.int .i64 0), (.str ⟨#[]⟩), (.slice none 0 (.fix 0)), (.int .i64 0), (.str ⟨#[]⟩), (.slice none 0 (.fix 0)), (.int .i64 0), (.str ⟨#[]⟩), (.slice none 0 (.fix 0))] [(0, 3, (.tmp 23)), (3, 3, (.tmp 25)), (6, 3, (.tmp 27))], none⟩,
        ⟨(some 29), .off (.tmp 3) 1, none⟩,
        ⟨none, .store 1 (.tmp 29) (.tmp 28), none⟩])
      (.seq
       (.ops [
         ⟨(some 30), .move (.tmp 0), none⟩,
         ⟨(some 31), .call 42 [(.tmp 30)], none⟩,
         ⟨(some 32), .move (.tmp 0), none⟩,
         ⟨(some 33), .call 43 [(.tmp 32)], none⟩,
         ⟨(some 34), .move (.tmp 0), none⟩,
         ⟨(some 35), .call 44 [(.tmp 34)], none⟩,
         ⟨(some 36), .off (.tmp 3) 2, none⟩,
         ⟨none, .store 1 (.tmp 36) (.tmp 31), none⟩,
         ⟨(some 37), .off (.tmp 3) 3, none⟩,
         ⟨none, .store 1 (.tmp 37) (.tmp 33), none⟩,
         ⟨(some 38), .off (.tmp 3) 4, none⟩,
         ⟨none, .store 1 (.tmp 38) (.tmp 35), none⟩])
       (.seq
        (.ops [
          ⟨(some 39), .move (.tmp 0), none⟩,
          ⟨(some 40), .off (.tmp 3) 4, none⟩,
          ⟨(some 41), .load 1 false (.tmp 40), none⟩,
          ⟨(some 42), .call 45 [(.tmp 39), (.tmp 41)], none⟩,
          ⟨(some 43), .off (.tmp 3) 6, none⟩,
          ⟨none, .store 1 (.tmp 43) (.tmp 42), none⟩])
        (.seq
         (.ops [
           ⟨(some 44), .build [(.int .i64 0), (.int .i64 0)] [(0, 1, (.const (.int .i64 1))), (1, 1, (.const (.int .i64 1)))], none⟩,
           ⟨(some 45), .build [(.int .i64 0), (.int .i64 0)] [(0, 1, (.const (.int .i64 2))), (1, 1, (.const (.int .i64 2)))], none⟩,
           ⟨(some 46), .build [(.int .i64 0), (.int .i64 0)] [(0, 1, (.const (.int .i64 3)))], none⟩,
           ⟨(some 47), .build [(.int .i64 0), (.int .i64 0)] [(0, 1, (.const (.int .i64 4))), (1, 1, (.const (.int .i64 3)))], none⟩,
           ⟨(some 48), .bslice 4 [(.int .i64 0), (.int .i64 0), (.int .i64 0), (.int .i64 0), (.int .i64 0), (.int .i64 0), (.int .i64 0), (.int .i64 0)] [(0, 2, (.tmp 44)), (2, 2, (.tmp 45)), (4, 2, (.tmp 46)), (6, 2, (.tmp 47))], none⟩,
           ⟨(some 49), .off (.tmp 3) 5, none⟩,
           ⟨none, .store 1 (.tmp 49) (.tmp 48), none⟩])
         (.seq
          (.seq
           (.ops [
             ⟨(some 50), .move (.tmp 0), none⟩,
             ⟨(some 51), .call 46 [(.tmp 50)], none⟩])
           (.cond (.tmp 51)
            (.ops [
              ⟨(some 52), .off (.tmp 3) 5, none⟩,
              ⟨(some 53), .load 1 false (.tmp 52), none⟩,
              ⟨(some 54), .build [(.int .i64 0), (.int .i64 0)] [(0, 1, (.const (.int .i64 1)))], none⟩,
              ⟨(some 55), .bslice 1 [(.int .i64 0), (.int .i64 0)] [(0, 2, (.tmp 54))], none⟩,
              ⟨(some 56), .append 2 16 (.tmp 53) (.tmp 55), none⟩,
              ⟨(some 57), .off (.tmp 3) 5, none⟩,
              ⟨none, .store 1 (.tmp 57) (.tmp 56), none⟩])
            .skip))
          (.seq
           (.seq
            (.ops [
              ⟨(some 58), .move (.tmp 0), none⟩,
              ⟨(some 59), .call 46 [(.tmp 58)], none⟩])
            (.cond (.tmp 59)
             (.ops [
               ⟨(some 60), .off (.tmp 3) 7, none⟩,
               ⟨(some 61), .load 1 false (.tmp 60), none⟩,
               ⟨(some 62), .build [(.int .i64 0), (.int .i64 0), (.int .i64 0), (.int .i64 0), (.int .i64 0), (.int .i64 0)] [(0, 1, (.const (.int .i64 2))), (2, 1, (.const (.int .i64 4))), (4, 1, (.const (.int .i64 1)))], none⟩,
               ⟨(some 63), .bslice 1 [(.int .i64 0), (.int .i64 0), (.int .i64 0), (.int .i64 0), (.int .i64 0), (.int .i64 0)] [(0, 6, (.tmp 62))], none⟩,
               ⟨(some 64), .append 6 48 (.tmp 61) (.tmp 63), none⟩,
               ⟨(some 65), .off (.tmp 3) 7, none⟩,
               ⟨none, .store 1 (.tmp 65) (.tmp 64), none⟩])
             .skip))
           (.seq
            (.seq
             (.ops [
               ⟨(some 66), .move (.tmp 0), none⟩,
               ⟨(some 67), .call 46 [(.tmp 66)], none⟩,
               ⟨(some 68), .move (.tmp 67), none⟩,
               ⟨(some 69), .off (.tmp 3) 4, (some (68, true))⟩,
               ⟨(some 70), .load 1 false (.tmp 69), (some (68, true))⟩,
               ⟨(some 71), .idxSl (.tmp 70) (.const (.int .i64 2)) 8, (some (68, true))⟩,
               ⟨(some 72), .off (.tmp 71) 2, (some (68, true))⟩,
               ⟨(some 73), .load 1 false (.tmp 72), (some (68, true))⟩,
               ⟨(some 74), .lenSl (.tmp 73), (some (68, true))⟩,
               ⟨(some 75), .bin .eql (.tmp 74) (.const (.int .i64 3)), (some (68, true))⟩,
               ⟨(some 76), .pick (.tmp 68) (.tmp 75) (.const (.bool false)), none⟩])
             (.cond (.tmp 76)
              (.ops [
                ⟨(some 77), .off (.tmp 3) 7, none⟩,
                ⟨(some 78), .load 1 false (.tmp 77), none⟩,
                ⟨(some 79), .build [(.int .i64 0), (.int .i64 0), (.int .i64 0), (.int .i64 0), (.int .i64 0), (.int .i64 0)] [(0, 1, (.const (.int .i64 3))), (1, 1, (.const (.int .i64 2))), (4, 1, (.const (.int .i64 1)))], none⟩,
                ⟨(some 80), .bslice 1 [(.int .i64 0), (.int .i64 0), (.int .i64 0), (.int .i64 0), (.int .i64 0), (.int .i64 0)] [(0, 6, (.tmp 79))], none⟩,
                ⟨(some 81), .append 6 48 (.tmp 78) (.tmp 80), none⟩,
                ⟨(some 82), .off (.tmp 3) 7, none⟩,
                ⟨none, .store 1 (.tmp 82) (.tmp 81), none⟩])
              .skip))
            (.seq
             (.seq
              (.ops [
                ⟨(some 83), .move (.tmp 0), none⟩,
                ⟨(some 84), .call 46 [(.tmp 83)], none⟩,
                ⟨(some 85), .move (.tmp 84), none⟩,
                ⟨(some 86), .off (.tmp 3) 4, (some (85, true))⟩,
                ⟨(some 87), .load 1 false (.tmp 86), (some (85, true))⟩,
                ⟨(some 88), .idxSl (.tmp 87) (.const (.int .i64 3)) 8, (some (85, true))⟩,
                ⟨(some 89), .off (.tmp 88) 2, (some (85, true))⟩,
                ⟨(some 90), .load 1 false (.tmp 89), (some (85, true))⟩,
                ⟨(some 91), .lenSl (.tmp 90), (some (85, true))⟩,
                ⟨(some 92), .bin .eql (.tmp 91) (.const (.int .i64 3)), (some (85, true))⟩,
                ⟨(some 93), .pick (.tmp 85) (.tmp 92) (.const (.bool false)), none⟩])
              (.cond (.tmp 93)
               (.ops [
                 ⟨(some 94), .off (.tmp 3) 7, none⟩,
                 ⟨(some 95), .load 1 false (.tmp 94), none⟩,
                 ⟨(some 96), .build [(.int .i64 0), (.int .i64 0), (.int .i64 0), (.int .i64 0), (.int .i64 0), (.int .i64 0)] [(0, 1, (.const (.int .i64 4))), (1, 1, (.const (.int .i64 1))), (4, 1, (.const (.int .i64 1)))], none⟩,
                 ⟨(some 97), .build [(.int .i64 0), (.int .i64 0), (.int .i64 0), (.int .i64 0), (.int .i64 0), (.int .i64 0)] [(0, 1, (.const (.int .i64 4))), (2, 1, (.const (.int .i64 5))), (4, 1, (.const (.int .i64 1)))], none⟩,
                 ⟨(some 98), .bslice 2 [(.int .i64 0), (.int .i64 0), (.int .i64 0), (.int .i64 0), (.int .i64 0), (.int .i64 0), (.int .i64 0), (.int .i64 0), (.int .i64 0), (.int .i64 0), (.int .i64 0), (.int .i64 0)] [(0, 6, (.tmp 96)), (6, 6, (.tmp 97))], none⟩,
                 ⟨(some 99), .append 6 48 (.tmp 95) (.tmp 98), none⟩,
                 ⟨(some 100), .off (.tmp 3) 7, none⟩,
                 ⟨none, .store 1 (.tmp 100) (.tmp 99), none⟩])
               .skip))
             (.seq
              (.ops [
                ⟨(some 101), .load 10 true (.tmp 3), none⟩,
                ⟨none, .store 10 (.tmp 2) (.tmp 101), none⟩])
              .ret))))))))))))⟩
theorem t28_ok : goodFn Try.prog 28 = true ∧ cfn Try.prog 28 = t28 := ⟨by kernel_rfl, by kernel_rfl⟩

/-- matchguard/refs.matched -/
def t29 : NFn := ⟨21, [(.cell 4 2 true)],
  (.seq
   (.ops [
     ⟨(some 2), .box (.tmp 0), none⟩,
     ⟨(some 4), .alloc [(.int .u64 0), (.int .u64 0)], none⟩])
   (.seq
    (.seq
     (.ops [
       ⟨(some 5), .move (.tmp 1), none⟩,
       ⟨(some 6), .bin .lss (.tmp 5) (.const (.int .i64 0)), none⟩,
       ⟨(some 7), .move (.tmp 6), none⟩,
       ⟨(some 8), .move (.tmp 1), (some (7, false))⟩,
       ⟨(some 9), .off (.tmp 2) 1, (some (7, false))⟩,
       ⟨(some 10), .load 1 false (.tmp 9), (some (7, false))⟩,
       ⟨(some 11), .lenSl (.tmp 10), (some (7, false))⟩,
       ⟨(some 12), .bin .geq (.tmp 8) (.tmp 11), (some (7, false))⟩,
       ⟨(some 13), .pick (.tmp 7) (.const (.bool true)) (.tmp 12), none⟩])
     (.cond (.tmp 13)
      (.seq
       (.ops [
         ⟨(some 14), .build [(.int .u64 0), (.int .u64 0)] [], none⟩,
         ⟨none, .store 2 (.tmp 4) (.tmp 14), none⟩])
       .ret)
      .skip))
    (.seq
     (.ops [
       ⟨(some 15), .off (.tmp 2) 1, none⟩,
       ⟨(some 16), .load 1 false (.tmp 15), none⟩,
       ⟨(some 17), .move (.tmp 1), none⟩,
       ⟨(some 18), .idxSl (.tmp 16) (.tmp 17) 8, none⟩,
       ⟨(some 19), .off (.tmp 18) 1, none⟩,
       ⟨(some 20), .load 2 true (.tmp 19), none⟩,
       ⟨none, .store 2 (.tmp 4) (.tmp 20), none⟩])
     .ret)))⟩
theorem t29_ok : goodFn Try.prog 29 = true ∧ cfn Try.prog 29 = t29 := ⟨by kernel_rfl, by kernel_rfl⟩

/-- matchguard/refs.argument -/
def t30 : NFn := ⟨20, [(.cell 4 2 true)],
  (.seq
   (.ops [
     ⟨(some 2), .box (.tmp 0), none⟩,
     ⟨(some 4), .alloc [(.int .u64 0), (.int .u64 0)], none⟩])
   (.seq
    (.seq
     (.ops [
       ⟨(some 5), .move (.tmp 1), none⟩,
       ⟨(some 6), .bin .lss (.tmp 5) (.const (.int .i64 0)), none⟩,
       ⟨(some 7), .move (.tmp 6), none⟩,
       ⟨(some 8), .move (.tmp 1), (some (7, false))⟩,
       ⟨(some 9), .off (.tmp 2) 4, (some (7, false))⟩,
       ⟨(some 10), .load 1 false (.tmp 9), (some (7, false))⟩,
       ⟨(some 11), .lenSl (.tmp 10), (some (7, false))⟩,
       ⟨(some 12), .bin .geq (.tmp 8) (.tmp 11), (some (7, false))⟩,
       ⟨(some 13), .pick (.tmp 7) (.const (.bool true)) (.tmp 12), none⟩])
     (.cond (.tmp 13)
      (.seq
       (.ops [
         ⟨(some 14), .build [(.int .u64 0), (.int .u64 0)] [], none⟩,
         ⟨none, .store 2 (.tmp 4) (.tmp 14), none⟩])
       .ret)
      .skip))
    (.seq
     (.ops [
       ⟨(some 15), .off (.tmp 2) 4, none⟩,
       ⟨(some 16), .load 1 false (.tmp 15), none⟩,
       ⟨(some 17), .move (.tmp 1), none⟩,
       ⟨(some 18), .idxSl (.tmp 16) (.tmp 17) 2, none⟩,
       ⟨(some 19), .load 2 true (.tmp 18), none⟩,
       ⟨none, .store 2 (.tmp 4) (.tmp 19), none⟩])
     .ret)))⟩
theorem t30_ok : goodFn Try.prog 30 = true ∧ cfn Try.prog 30 = t30 := ⟨by kernel_rfl, by kernel_rfl⟩

/-- slices.Contains[[]matchguard/refs.Target,matchguard/refs.Target] -/
def t31 : NFn := ⟨9, [(.tmp 4)],
  (.seq
   (.ops [
     ⟨(some 3), .box (.tmp 1), none⟩,
     ⟨(some 4), .move (.const (.bool false)), none⟩])
   (.seq
    (.ops [
      ⟨(some 5), .move (.tmp 0), none⟩,
      ⟨(some 6), .load 4 true (.tmp 3), none⟩,
      ⟨(some 7), .call 47 [(.tmp 5), (.tmp 6)], none⟩,
      ⟨(some 8), .bin .geq (.tmp 7) (.const (.int .i64 0)), none⟩,
      ⟨(some 4), .move (.tmp 8), none⟩])
    .ret))⟩
theorem t31_ok : goodFn Try.prog 31 = true ∧ cfn Try.prog 31 = t31 := ⟨by kernel_rfl, by kernel_rfl⟩

/-- (*matchguard/matchguardcase.Codes).match -/
def t33 : NFn := ⟨120, [(.cell 6 8 true)],
  (.seq
   (.ops [
     ⟨(some 4), .box (.tmp 1), none⟩,
     ⟨(some 5), .box (.tmp 2), none⟩,
     ⟨(some 6), .alloc [(.bool false), (.int .u64 0), (.int .u64 0), (.int .u64 0), (.int .u64 0), (.int .i64 0), (.int .u64 0), (.int .u64 0)], none⟩])
   (.seq
    (.ops [
      ⟨(some 12), .load 10 true (.tmp 4), none⟩,
      ⟨(some 13), .off (.tmp 5) 1, none⟩,
      ⟨(some 14), .load 1 false (.tmp 13), none⟩,
      ⟨(some 15), .call 49 [(.tmp 12), (.tmp 14)], none⟩,
      ⟨(some 7), .move (.tmp 15), none⟩])
    (.seq
     (.ops [
       ⟨(some 16), .move (.tmp 0), none⟩,
       ⟨(some 17), .call 20 [(.tmp 16), (.const (.int .i64 256))], none⟩,
       ⟨(some 18), .conv .u64 (.tmp 17), none⟩,
       ⟨(some 19), .bin .shl (.tmp 18) (.const (.int .u64 24)), none⟩,
       ⟨(some 20), .move (.tmp 0), none⟩,
       ⟨(some 21), .call 20 [(.tmp 20), (.const (.int .i64 16))], none⟩,
       ⟨(some 22), .conv .u64 (.tmp 21), none⟩,
       ⟨(some 23), .bin .shl (.tmp 22) (.const (.int .u64 8)), none⟩,
       ⟨(some 24), .bin .or (.tmp 19) (.tmp 23), none⟩,
       ⟨(some 25), .move (.tmp 0), none⟩,
       ⟨(some 26), .call 20 [(.tmp 25), (.const (.int .i64 16))], none⟩,
       ⟨(some 27), .conv .u64 (.tmp 26), none⟩,
       ⟨(some 28), .bin .or (.tmp 24) (.tmp 27), none⟩,
       ⟨(some 29), .build [(.int .u64 0), (.int .u64 0)] [(1, 1, (.tmp 28))], none⟩,
       ⟨(some 30), .move (.tmp 7), none⟩,
       ⟨(some 31), .call 35 [(.tmp 29), (.tmp 30)], none⟩,
       ⟨(some 8), .alloc [(.int .u64 0), (.int .u64 0)], none⟩,
       ⟨none, .store 2 (.tmp 8) (.tmp 31), none⟩])
     (.seq
      (.seq
       (.ops [
         ⟨(some 32), .off (.tmp 5) 2, none⟩,
         ⟨(some 33), .load 1 false (.tmp 32), none⟩])
       (.block 0
        (.seq
         (.ops [
           ⟨(some 37), .bin .eql (.tmp 33) (.const (.int .i64 2)), none⟩,
           ⟨(some 36), .move (.tmp 37), none⟩])
         (.cond (.tmp 36)
          (.seq
           (.ops [
             ⟨(some 38), .move (.tmp 0), none⟩,
             ⟨(some 39), .call 20 [(.tmp 38), (.const (.int .i64 5))], none⟩,
             ⟨(some 40), .bin .gtr (.tmp 39) (.const (.int .i64 0)), none⟩])
           (.cond (.tmp 40)
            (.seq
             (.ops [
               ⟨(some 41), .move (.tmp 7), none⟩,
               ⟨(some 42), .move (.tmp 0), none⟩,
               ⟨(some 43), .move (.tmp 7), none⟩,
               ⟨(some 44), .call 20 [(.tmp 42), (.tmp 43)], none⟩,
               ⟨(some 45), .bin .add (.const (.int .i64 1)) (.tmp 44), none⟩,
               ⟨(some 46), .bslice 5 [(.int .i64 0), (.int .i64 0), (.int .i64 0), (.int .i64 0), (.int .i64 0)] [(0, 1, (.tmp 41)), (1, 1, (.const (.int .i64 8))), (2, 1, (.const (.int .i64 16))), (3, 1, (.const (.int .i64 1))), (4, 1, (.tmp 45))], none⟩,
               ⟨(some 47), .move (.tmp 0), none⟩,
               ⟨(some 48), .call 20 [(.tmp 47), (.const (.int .i64 5))], none⟩,
               ⟨(some 49), .idxSl (.tmp 46) (.tmp 48) 1, none⟩,
               ⟨(some 50), .load 1 false (.tmp 49), none⟩,
               ⟨(some 9), .move (.tmp 50), none⟩])
             (.seq
              (.draw 0 [
                ⟨0, ⟨(some 51), .move (.tmp 9), none⟩, [], 0⟩,
                ⟨1, ⟨(some 52), .off (.tmp 8) 1, none⟩, [], 0⟩,
                ⟨2, ⟨(some 53), .load 1 false (.tmp 52), none⟩, [1], 0⟩,
                ⟨3, ⟨(some 54), .move (.tmp 7), none⟩, [], 0⟩,
                ⟨4, ⟨(some 55), .move (.tmp 9), none⟩, [], 0⟩,
                ⟨5, ⟨(some 56), .call 50 [(.tmp 54), (.tmp 55)], none⟩, [3, 4], 0⟩,
                ⟨6, ⟨(some 57), .fieldv (.tmp 56) 1 1 false, none⟩, [5, 3, 4], 0⟩,
                ⟨7, ⟨(some 58), .bin .and (.tmp 53) (.tmp 57), none⟩, [2, 1, 6, 5, 3, 4], 0⟩,
                ⟨8, ⟨(some 59), .build [(.int .u64 0), (.int .u64 0)] [(1, 1, (.tmp 58))], none⟩, [7, 2, 1, 6, 5, 3, 4], 0⟩,
                ⟨9, ⟨(some 60), .build [(.bool false), (.int .u64 0), (.int .u64 0), (.int .u64 0), (.int .u64 0), (.int .i64 0), (.int .u64 0), (.int .u64 0)] [(0, 1, (.const (.bool true))), (5, 1, (.tmp 51)), (1, 2, (.tmp 59))], none⟩, [0, 8, 7, 2, 1, 6, 5, 3, 4], 0⟩,
                ⟨10, ⟨none, .store 8 (.tmp 6) (.tmp 60), none⟩, [9, 0, 8, 7, 2, 1, 6, 5, 3, 4], 0⟩])
              .ret))
            .skip))
          (.seq
           (.ops [
             ⟨(some 62), .bin .eql (.tmp 33) (.const (.int .i64 3)), none⟩,
             ⟨(some 61), .move (.tmp 62), none⟩])
           (.cond (.tmp 61)
            (.seq
             (.ops [
               ⟨(some 63), .move (.tmp 0), none⟩,
               ⟨(some 64), .call 20 [(.tmp 63), (.const (.int .i64 256))], none⟩,
               ⟨(some 65), .bslice 5 [(.int .i64 0), (.int .i64 0), (.int .i64 0), (.int .i64 0), (.int .i64 0)] [(0, 1, (.const (.int .i64 255))), (1, 1, (.const (.int .i64 15))), (2, 1, (.const (.int .i64 1))), (3, 1, (.const (.int .i64 12))), (4, 1, (.tmp 64))], none⟩,
               ⟨(some 66), .move (.tmp 0), none⟩,
               ⟨(some 67), .call 20 [(.tmp 66), (.const (.int .i64 5))], none⟩,
               ⟨(some 68), .idxSl (.tmp 65) (.tmp 67) 1, none⟩,
               ⟨(some 69), .load 1 false (.tmp 68), none⟩,
               ⟨(some 70), .conv .u64 (.tmp 69), none⟩,
               ⟨(some 71), .build [(.int .u64 0), (.int .u64 0)] [(1, 1, (.tmp 70))], none⟩,
               ⟨(some 72), .move (.tmp 7), none⟩,
               ⟨(some 73), .call 35 [(.tmp 71), (.tmp 72)], none⟩,
               ⟨(some 10), .alloc [(.int .u64 0), (.int .u64 0)], none⟩,
               ⟨none, .store 2 (.tmp 10) (.tmp 73), none⟩])
             (.seq
              (.ops [
                ⟨(some 74), .off (.tmp 10) 1, none⟩,
                ⟨(some 75), .load 1 false (.tmp 74), none⟩,
                ⟨(some 76), .bin .neq (.tmp 75) (.const (.int .u64 0)), none⟩])
              (.cond (.tmp 76)
               (.seq
                (.ops [
                  ⟨(some 77), .load 2 true (.tmp 10), none⟩,
                  ⟨(some 78), .off (.tmp 8) 1, none⟩,
                  ⟨(some 79), .load 1 false (.tmp 78), none⟩,
                  ⟨(some 80), .off (.tmp 10) 1, none⟩,
                  ⟨(some 81), .load 1 false (.tmp 80), none⟩,
                  ⟨(some 82), .bin .and (.tmp 79) (.tmp 81), none⟩,
                  ⟨(some 83), .build [(.int .u64 0), (.int .u64 0)] [(1, 1, (.tmp 82))], none⟩,
                  ⟨(some 84), .build [(.bool false), (.int .u64 0), (.int .u64 0), (.int .u64 0), (.int .u64 0), (.int .i64 0), (.int .u64 0), (.int .u64 0)] [(0, 1, (.const (.bool true))), (3, 2, (.tmp 77)), (1, 2, (.tmp 83))], none⟩,
                  ⟨none, .store 8 (.tmp 6) (.tmp 84), none⟩])
                .ret)
               .skip)))
            (.seq
             (.ops [
               ⟨(some 86), .bin .eql (.tmp 33) (.const (.int .i64 4)), none⟩,
               ⟨(some 85), .move (.tmp 86), none⟩])
             (.cond (.tmp 85)
              (.seq
               (.draw 0 [
                 ⟨0, ⟨(some 87), .off (.tmp 8) 1, none⟩, [], 0⟩,
                 ⟨1, ⟨(some 88), .load 1 false (.tmp 87), none⟩, [0], 0⟩,
                 ⟨2, ⟨(some 89), .move (.tmp 0), none⟩, [], 0⟩,
                 ⟨3, ⟨(some 90), .call 20 [(.tmp 89), (.const (.int .i64 256))], none⟩, [2], 0⟩,
                 ⟨4, ⟨(some 91), .conv .u64 (.tmp 90), none⟩, [3, 2], 0⟩,
                 ⟨5, ⟨(some 92), .bin .add (.tmp 88) (.tmp 91), none⟩, [1, 0, 4, 3, 2], 0⟩,
                 ⟨6, ⟨(some 93), .move (.tmp 7), none⟩, [], 0⟩,
                 ⟨7, ⟨(some 94), .conv .u64 (.tmp 93), none⟩, [6], 0⟩,
                 ⟨8, ⟨(some 95), .bin .shl (.const (.int .u64 1)) (.tmp 94), none⟩, [7, 6], 0⟩,
                 ⟨9, ⟨(some 96), .bin .sub (.tmp 95) (.const (.int .u64 1)), none⟩, [8, 7, 6], 0⟩,
                 ⟨10, ⟨(some 97), .minmax false [(.tmp 92), (.tmp 96)], none⟩, [5, 1, 0, 4, 3, 2, 9, 8, 7, 6], 0⟩,
                 ⟨11, ⟨(some 11), .move (.tmp 97), none⟩, [10, 5, 1, 0, 4, 3, 2, 9, 8, 7, 6], 0⟩])
               (.seq
                (.ops [
                  ⟨(some 98), .move (.tmp 0), none⟩,
                  ⟨(some 99), .call 20 [(.tmp 98), (.const (.int .i64 5))], none⟩,
                  ⟨(some 100), .bin .gtr (.tmp 99) (.const (.int .i64 0)), none⟩,
                  ⟨(some 101), .move (.tmp 100), none⟩,
                  ⟨(some 102), .off (.tmp 8) 1, (some (101, true))⟩,
                  ⟨(some 103), .load 1 false (.tmp 102), (some (101, true))⟩,
                  ⟨(some 104), .bin .eql (.tmp 103) (.const (.int .u64 0)), (some (101, true))⟩,
                  ⟨(some 105), .move (.tmp 104), (some (101, true))⟩,
                  ⟨(some 106), .move (.tmp 11), (some (105, true))⟩,
                  ⟨(some 107), .move (.tmp 7), (some (105, true))⟩,
                  ⟨(some 108), .conv .u64 (.tmp 107), (some (105, true))⟩,
                  ⟨(some 109), .bin .shl (.const (.int .u64 1)) (.tmp 108), (some (105, true))⟩,
                  ⟨(some 110), .bin .sub (.tmp 109) (.const (.int .u64 1)), (some (105, true))⟩,
                  ⟨(some 111), .bin .eql (.tmp 106) (.tmp 110), (some (105, true))⟩,
                  ⟨(some 112), .pick (.tmp 105) (.tmp 111) (.const (.bool false)), (some (101, true))⟩,
                  ⟨(some 113), .un .not (.tmp 112), (some (101, true))⟩,
                  ⟨(some 114), .pick (.tmp 101) (.tmp 113) (.const (.bool false)), none⟩])
                (.cond (.tmp 114)
                 (.seq
                  (.ops [
                    ⟨(some 115), .load 2 true (.tmp 8), none⟩,
                    ⟨(some 116), .move (.tmp 11), none⟩,
                    ⟨(some 117), .build [(.int .u64 0), (.int .u64 0)] [(1, 1, (.tmp 116))], none⟩,
                    ⟨(some 118), .build [(.bool false), (.int .u64 0), (.int .u64 0), (.int .u64 0), (.int .u64 0), (.int .i64 0), (.int .u64 0), (.int .u64 0)] [(0, 1, (.const (.bool true))), (1, 2, (.tmp 115)), (6, 2, (.tmp 117))], none⟩,
                    ⟨none, .store 8 (.tmp 6) (.tmp 118), none⟩])
                  .ret)
                 .skip)))
              (.seq
               (.ops [
                 ⟨(some 34), .load 2 true (.tmp 8), none⟩,
                 ⟨(some 35), .build [(.bool false), (.int .u64 0), (.int .u64 0), (.int .u64 0), (.int .u64 0), (.int .i64 0), (.int .u64 0), (.int .u64 0)] [(0, 1, (.const (.bool true))), (1, 2, (.tmp 34))], none⟩,
                 ⟨none, .store 8 (.tmp 6) (.tmp 35), none⟩])
               .ret)))))))))
      (.seq
       (.ops [
         ⟨(some 119), .build [(.bool false), (.int .u64 0), (.int .u64 0), (.int .u64 0), (.int .u64 0), (.int .i64 0), (.int .u64 0), (.int .u64 0)] [], none⟩,
         ⟨none, .store 8 (.tmp 6) (.tmp 119), none⟩])
       .ret)))))⟩
theorem t33_ok : goodFn Try.prog 33 = true ∧ cfn Try.prog 33 = t33 := ⟨by kernel_rfl, by kernel_rfl⟩

/-- matchguard/matchguardcase.ActionIn -/
def t34 : NFn := ⟨21, [(.cell 4 5 true)],
  (.seq
   (.ops [
     ⟨(some 2), .box (.tmp 0), none⟩,
     ⟨(some 4), .alloc [(.int .i64 0), (.str ⟨#[]⟩), (.slice none 0 (.fix 0)), (.slice none 0 (.fix 0)), (.str ⟨#[]⟩)], none⟩])
   (.seq
    (.seq
     (.ops [
       ⟨(some 7), .off (.tmp 2) 3, none⟩,
       ⟨(some 8), .load 1 false (.tmp 7), none⟩,
       ⟨(some 9), .lenSl (.tmp 8), none⟩,
       ⟨(some 10), .move (.const (.int .i64 0)), none⟩])
     (.block 0
      (.loop
       (.seq
        (.ops [
          ⟨(some 11), .bin .lss (.tmp 10) (.tmp 9), none⟩])
        (.seq
         (.cond (.tmp 11)
          .skip
          (.exit 0))
         (.seq
          (.block 1
           (.seq
            (.ops [
              ⟨(some 12), .idxSl (.tmp 8) (.tmp 10) 5, none⟩,
              ⟨(some 13), .load 5 true (.tmp 12), none⟩,
              ⟨(some 6), .alloc [(.int .i64 0), (.str ⟨#[]⟩), (.slice none 0 (.fix 0)), (.slice none 0 (.fix 0)), (.str ⟨#[]⟩)], none⟩,
              ⟨none, .store 5 (.tmp 6) (.tmp 13), none⟩])
            (.seq
             (.ops [
               ⟨(some 14), .off (.tmp 6) 0, none⟩,
               ⟨(some 15), .load 1 false (.tmp 14), none⟩,
               ⟨(some 16), .move (.tmp 1), none⟩,
               ⟨(some 17), .bin .eql (.tmp 15) (.tmp 16), none⟩])
             (.cond (.tmp 17)
              (.seq
               (.ops [
                 ⟨(some 18), .load 5 true (.tmp 6), none⟩,
                 ⟨none, .store 5 (.tmp 4) (.tmp 18), none⟩])
               .ret)
              .skip))))
          (.ops [
            ⟨(some 19), .bin .add (.tmp 10) (.const (.int .i64 1)), none⟩,
            ⟨(some 10), .move (.tmp 19), none⟩])))))))
    (.seq
     (.ops [
       ⟨(some 20), .build [(.int .i64 0), (.str ⟨#[]⟩), (.slice none 0 (.fix 0)), (.slice none 0 (.fix 0)), (.str ⟨#[]⟩)] [], none⟩,
       ⟨none, .store 5 (.tmp 4) (.tmp 20), none⟩])
     .ret)))⟩
theorem t34_ok : goodFn Try.prog 34 = true ∧ cfn Try.prog 34 = t34 := ⟨by kernel_rfl, by kernel_rfl⟩

/-- matchguard/matchguardcase.Low -/
def t35 : NFn := ⟨35, [(.cell 4 2 true)],
  (.seq
   (.ops [
     ⟨(some 2), .box (.tmp 0), none⟩,
     ⟨(some 4), .alloc [(.int .u64 0), (.int .u64 0)], none⟩])
   (.seq
    (.block 0
     (.seq
      (.ops [
        ⟨(some 6), .move (.tmp 1), none⟩,
        ⟨(some 7), .bin .geq (.tmp 6) (.const (.int .i64 128)), none⟩,
        ⟨(some 5), .move (.tmp 7), none⟩])
      (.cond (.tmp 5)
       (.seq
        (.ops [
          ⟨(some 8), .load 2 true (.tmp 2), none⟩,
          ⟨none, .store 2 (.tmp 4) (.tmp 8), none⟩])
        .ret)
       (.seq
        (.ops [
          ⟨(some 10), .move (.tmp 1), none⟩,
          ⟨(some 11), .bin .geq (.tmp 10) (.const (.int .i64 64)), none⟩,
          ⟨(some 9), .move (.tmp 11), none⟩])
        (.cond (.tmp 9)
         (.seq
          (.ops [
            ⟨(some 12), .off (.tmp 2) 0, none⟩,
            ⟨(some 13), .load 1 false (.tmp 12), none⟩,
            ⟨(some 14), .move (.tmp 1), none⟩,
            ⟨(some 15), .bin .sub (.tmp 14) (.const (.int .i64 64)), none⟩,
            ⟨(some 16), .conv .u64 (.tmp 15), none⟩,
            ⟨(some 17), .bin .shl (.const (.int .u64 1)) (.tmp 16), none⟩,
            ⟨(some 18), .bin .sub (.tmp 17) (.const (.int .u64 1)), none⟩,
            ⟨(some 19), .bin .and (.tmp 13) (.tmp 18), none⟩,
            ⟨(some 20), .off (.tmp 2) 1, none⟩,
            ⟨(some 21), .load 1 false (.tmp 20), none⟩,
            ⟨(some 22), .build [(.int .u64 0), (.int .u64 0)] [(0, 1, (.tmp 19)), (1, 1, (.tmp 21))], none⟩,
            ⟨none, .store 2 (.tmp 4) (.tmp 22), none⟩])
          .ret)
         (.seq
          (.ops [
            ⟨(some 24), .move (.tmp 1), none⟩,
            ⟨(some 25), .bin .leq (.tmp 24) (.const (.int .i64 0)), none⟩,
            ⟨(some 23), .move (.tmp 25), none⟩])
          (.cond (.tmp 23)
           (.seq
            (.ops [
              ⟨(some 26), .build [(.int .u64 0), (.int .u64 0)] [], none⟩,
              ⟨none, .store 2 (.tmp 4) (.tmp 26), none⟩])
            .ret)
           .skip)))))))
    (.seq
     (.ops [
       ⟨(some 27), .off (.tmp 2) 1, none⟩,
       ⟨(some 28), .load 1 false (.tmp 27), none⟩,
       ⟨(some 29), .move (.tmp 1), none⟩,
       ⟨(some 30), .conv .u64 (.tmp 29), none⟩,
       ⟨(some 31), .bin .shl (.const (.int .u64 1)) (.tmp 30), none⟩,
       ⟨(some 32), .bin .sub (.tmp 31) (.const (.int .u64 1)), none⟩,
       ⟨(some 33), .bin .and (.tmp 28) (.tmp 32), none⟩,
       ⟨(some 34), .build [(.int .u64 0), (.int .u64 0)] [(1, 1, (.tmp 33))], none⟩,
       ⟨none, .store 2 (.tmp 4) (.tmp 34), none⟩])
     .ret)))⟩
theorem t35_ok : goodFn Try.prog 35 = true ∧ cfn Try.prog 35 = t35 := ⟨by kernel_rfl, by kernel_rfl⟩

/-- (*matchguard/matchguardcase.Codes).states -/
def t42 : NFn := ⟨63, [(.tmp 2)],
  (.seq
   (.ops [
     ⟨(some 2), .move (.const (.slice none 0 (.fix 0))), none⟩])
   (.seq
    (.ops [
      ⟨(some 7), .bslice 4 [(.int .i64 0), (.int .i64 0), (.int .i64 0), (.int .i64 0)] [(0, 1, (.const (.int .i64 0))), (1, 1, (.const (.int .i64 0))), (2, 1, (.const (.int .i64 65535))), (3, 1, (.const (.int .i64 3)))], none⟩,
      ⟨(some 3), .move (.tmp 7), none⟩])
    (.seq
     (.ops [
       ⟨(some 8), .move (.tmp 3), none⟩,
       ⟨(some 9), .move (.tmp 0), none⟩,
       ⟨(some 10), .call 20 [(.tmp 9), (.const (.int .i64 4))], none⟩,
       ⟨(some 11), .idxSl (.tmp 8) (.tmp 10) 1, none⟩,
       ⟨(some 12), .load 1 false (.tmp 11), none⟩,
       ⟨(some 13), .build [(.int .i64 0), (.int .i64 0), (.int .i64 0), (.slice none 0 (.fix 0)), (.int .i64 0)] [(0, 1, (.const (.int .i64 1))), (1, 1, (.const (.int .i64 1))), (2, 1, (.const (.int .i64 4))), (4, 1, (.tmp 12))], none⟩,
       ⟨(some 4), .alloc [(.int .i64 0), (.int .i64 0), (.int .i64 0), (.slice none 0 (.fix 0)), (.int .i64 0)], none⟩,
       ⟨none, .store 5 (.tmp 4) (.tmp 13), none⟩])
     (.seq
      (.ops [
        ⟨(some 14), .build [(.int .u64 0), (.int .u64 0)] [(1, 1, (.const (.int .u64 1)))], none⟩,
        ⟨(some 15), .build [(.int .u64 0), (.int .u64 0)] [(1, 1, (.const (.int .u64 15)))], none⟩,
        ⟨(some 16), .build [(.int .u64 0), (.int .u64 0), (.int .u64 0), (.int .u64 0), (.int .i64 0)] [(0, 2, (.tmp 14)), (2, 2, (.tmp 15)), (4, 1, (.const (.int .i64 2)))], none⟩,
        ⟨(some 17), .build [(.int .u64 0), (.int .u64 0)] [(1, 1, (.const (.int .u64 2)))], none⟩,
        ⟨(some 18), .build [(.int .u64 0), (.int .u64 0)] [(1, 1, (.const (.int .u64 3)))], none⟩,
        ⟨(some 19), .build [(.int .u64 0), (.int .u64 0), (.int .u64 0), (.int .u64 0), (.int .i64 0)] [(0, 2, (.tmp 17)), (2, 2, (.tmp 18)), (4, 1, (.const (.int .i64 3)))], none⟩,
        ⟨(some 20), .bslice 2 [(.int .u64 0), (.int .u64 0), (.int .u64 0), (.int .u64 0), (.int .i64 0), (.int .u64 0), (.int .u64 0), (.int .u64 0), (.int .u64 0), (.int .i64 0)] [(0, 5, (.tmp 16)), (5, 5, (.tmp 19))], none⟩,
        ⟨(some 21), .off (.tmp 4) 3, none⟩,
        ⟨none, .store 1 (.tmp 21) (.tmp 20), none⟩])
      (.seq
       (.seq
        (.ops [
          ⟨(some 22), .move (.tmp 0), none⟩,
          ⟨(some 23), .call 46 [(.tmp 22)], none⟩])
        (.cond (.tmp 23)
         (.draw 1 [
           ⟨0, ⟨(some 24), .off (.tmp 4) 3, none⟩, [], 0⟩,
           ⟨1, ⟨(some 25), .load 1 false (.tmp 24), none⟩, [0], 0⟩,
           ⟨2, ⟨(some 26), .move (.tmp 0), none⟩, [], 0⟩,
           ⟨3, ⟨(some 27), .call 20 [(.tmp 26), (.const (.int .i64 2))], none⟩, [2], 0⟩,
           ⟨4, ⟨(some 28), .bin .mul (.const (.int .i64 8)) (.tmp 27), none⟩, [3, 2], 0⟩,
           ⟨5, ⟨(some 29), .conv .u64 (.tmp 28), none⟩, [4, 3, 2], 0⟩,
           ⟨6, ⟨(some 30), .build [(.int .u64 0), (.int .u64 0)] [(1, 1, (.tmp 29))], none⟩, [5, 4, 3, 2], 0⟩,
           ⟨7, ⟨(some 31), .build [(.int .u64 0), (.int .u64 0)] [(1, 1, (.const (.int .u64 8)))], none⟩, [], 0⟩,
           ⟨8, ⟨(some 32), .move (.tmp 3), none⟩, [], 0⟩,
           ⟨9, ⟨(some 33), .move (.tmp 0), none⟩, [], 0⟩,
           ⟨10, ⟨(some 34), .call 20 [(.tmp 33), (.const (.int .i64 4))], none⟩, [9, 3, 2], 0⟩,
           ⟨11, ⟨(some 35), .idxSl (.tmp 32) (.tmp 34) 1, none⟩, [8, 10, 9, 3, 2], 0⟩,
           ⟨12, ⟨(some 36), .load 1 false (.tmp 35), none⟩, [11, 8, 10, 9, 3, 2], 0⟩,
           ⟨13, ⟨(some 37), .build [(.int .u64 0), (.int .u64 0), (.int .u64 0), (.int .u64 0), (.int .i64 0)] [(0, 2, (.tmp 30)), (2, 2, (.tmp 31)), (4, 1, (.tmp 36))], none⟩, [6, 5, 4, 3, 2, 7, 12, 11, 8, 10, 9], 0⟩,
           ⟨14, ⟨(some 38), .bslice 1 [(.int .u64 0), (.int .u64 0), (.int .u64 0), (.int .u64 0), (.int .i64 0)] [(0, 5, (.tmp 37))], none⟩, [13, 6, 5, 4, 3, 2, 7, 12, 11, 8, 10, 9], 0⟩,
           ⟨15, ⟨(some 39), .append 5 40 (.tmp 25) (.tmp 38), none⟩, [1, 0, 14, 13, 6, 5, 4, 3, 2, 7, 12, 11, 8, 10, 9], 1⟩,
           ⟨16, ⟨(some 40), .off (.tmp 4) 3, none⟩, [0, 1, 2, 3, 4, 5, 6, 7, 8, 9, 10, 11, 12, 13, 14, 15], 1⟩,
           ⟨17, ⟨none, .store 1 (.tmp 40) (.tmp 39), none⟩, [16, 0, 1, 2, 3, 4, 5, 6, 7, 8, 9, 10, 11, 12, 13, 14, 15], 1⟩])
         .skip))
       (.seq
        (.ops [
          ⟨(some 41), .move (.tmp 3), none⟩,
          ⟨(some 42), .move (.tmp 0), none⟩,
          ⟨(some 43), .call 20 [(.tmp 42), (.const (.int .i64 4))], none⟩,
          ⟨(some 44), .idxSl (.tmp 41) (.tmp 43) 1, none⟩,
          ⟨(some 45), .load 1 false (.tmp 44), none⟩,
          ⟨(some 46), .build [(.int .i64 0), (.int .i64 0), (.int .i64 0), (.slice none 0 (.fix 0)), (.int .i64 0)] [(0, 1, (.const (.int .i64 2))), (1, 1, (.const (.int .i64 2))), (4, 1, (.tmp 45))], none⟩,
          ⟨(some 5), .alloc [(.int .i64 0), (.int .i64 0), (.int .i64 0), (.slice none 0 (.fix 0)), (.int .i64 0)], none⟩,
          ⟨none, .store 5 (.tmp 5) (.tmp 46), none⟩])
        (.seq
         (.ops [
           ⟨(some 47), .build [(.int .i64 0), (.int .i64 0), (.int .i64 0), (.slice none 0 (.fix 0)), (.int .i64 0)] [(0, 1, (.const (.int .i64 3))), (1, 1, (.const (.int .i64 3))), (2, 1, (.const (.int .i64 9))), (4, 1, (.const (.int .i64 0)))], none⟩,
           ⟨(some 6), .alloc [(.int .i64 0), (.int .i64 0), (.int .i64 0), (.slice none 0 (.fix 0)), (.int .i64 0)], none⟩,
           ⟨none, .store 5 (.tmp 6) (.tmp 47), none⟩])
         (.seq
          (.seq
           (.ops [
             ⟨(some 48), .move (.tmp 0), none⟩,
             ⟨(some 49), .call 20 [(.tmp 48), (.const (.int .i64 3))], none⟩,
             ⟨(some 50), .bin .eql (.tmp 49) (.const (.int .i64 1)), none⟩])
           (.cond (.tmp 50)
            (.ops [
              ⟨(some 51), .build [(.int .u64 0), (.int .u64 0)] [(1, 1, (.const (.int .u64 5)))], none⟩,
              ⟨(some 52), .build [(.int .u64 0), (.int .u64 0)] [(1, 1, (.const (.int .u64 15)))], none⟩,
              ⟨(some 53), .move (.tmp 0), none⟩,
              ⟨(some 54), .call 20 [(.tmp 53), (.const (.int .i64 3))], none⟩,
              ⟨(some 55), .bin .add (.const (.int .i64 1)) (.tmp 54), none⟩,
              ⟨(some 56), .build [(.int .u64 0), (.int .u64 0), (.int .u64 0), (.int .u64 0), (.int .i64 0)] [(0, 2, (.tmp 51)), (2, 2, (.tmp 52)), (4, 1, (.tmp 55))], none⟩,
              ⟨(some 57), .bslice 1 [(.int .u64 0), (.int .u64 0), (.int .u64 0), (.int .u64 0), (.int .i64 0)] [(0, 5, (.tmp 56))], none⟩,
              ⟨(some 58), .off (.tmp 6) 3, none⟩,
              ⟨none, .store 1 (.tmp 58) (.tmp 57), none⟩])
            .skip))
          (.seq
           (.ops [
             ⟨(some 59), .load 5 true (.tmp 4), none⟩,
             ⟨(some 60), .load 5 true (.tmp 5), none⟩,
             ⟨(some 61), .load 5 true (.tmp 6), none⟩,
             ⟨(some 62), .bslice 3 [(.int .i64 0), (.int .i64 0), (.int .i64 0), (.slice none 0 (.fix 0)), (.int .i64 0), (.int .i64 0), (.int .i64 0), (.int .i64 0), (.slice none 0 (.fix 0)), (.int .i64 0), (.int .i64 0), (.int .i64 0), (.int .i64 0), (.slice none 0 (.fix 0)), (.int .i64 0)] [(0, 5, (.tmp 59)), (5, 5, (.tmp 60)), (10, 5, (.tmp 61))], none⟩,
             ⟨(some 2), .move (.tmp 62), none⟩])
           .ret)))))))))⟩
theorem t42_ok : goodFn Try.prog 42 = true ∧ cfn Try.prog 42 = t42 := ⟨by kernel_rfl, by kernel_rfl⟩

/-- (*matchguard/matchguardcase.Codes).actions -/
def t43 : NFn := ⟨58, [(.tmp 2)],
  (.seq
   (.ops [
     ⟨(some 2), .move (.const (.slice none 0 (.fix 0))), none⟩])
   (.seq
    (.ops [
      ⟨(some 5), .build [(.int .i64 0), (.int .i64 0), (.int .u64 0), (.int .u64 0)] [(0, 1, (.const (.int .i64 3)))], none⟩,
      ⟨(some 3), .alloc [(.int .i64 0), (.int .i64 0), (.int .u64 0), (.int .u64 0)], none⟩,
      ⟨none, .store 4 (.tmp 3) (.tmp 5), none⟩])
    (.seq
     (.draw 9 [
       ⟨0, ⟨(some 6), .build [(.int .i64 0), (.str ⟨#[]⟩), (.slice none 0 (.fix 0)), (.slice none 0 (.fix 0)), (.str ⟨#[]⟩)] [(0, 1, (.const (.int .i64 1))), (1, 1, (.const (.str ⟨#[110, 111, 112]⟩)))], none⟩, [], 0⟩,
       ⟨1, ⟨(some 7), .build [(.int .i64 0), (.int .i64 0), (.int .i64 0), (.int .i64 0), (.int .u64 0), (.int .u64 0)] [(0, 1, (.const (.int .i64 6)))], none⟩, [], 0⟩,
       ⟨2, ⟨(some 8), .bslice 1 [(.int .i64 0), (.int .i64 0), (.int .i64 0), (.int .i64 0), (.int .u64 0), (.int .u64 0)] [(0, 6, (.tmp 7))], none⟩, [1], 0⟩,
       ⟨3, ⟨(some 9), .build [(.int .i64 0), (.str ⟨#[]⟩), (.slice none 0 (.fix 0)), (.slice none 0 (.fix 0)), (.str ⟨#[]⟩)] [(0, 1, (.const (.int .i64 2))), (1, 1, (.const (.str ⟨#[100, 114, 111, 112]⟩))), (3, 1, (.tmp 8))], none⟩, [2, 1], 1⟩,
       ⟨4, ⟨(some 10), .build [(.str ⟨#[]⟩), (.int .i64 0)] [(0, 1, (.const (.str ⟨#[112, 111, 114, 116]⟩))), (1, 1, (.const (.int .i64 16)))], none⟩, [], 1⟩,
       ⟨5, ⟨(some 11), .bslice 1 [(.str ⟨#[]⟩), (.int .i64 0)] [(0, 2, (.tmp 10))], none⟩, [4], 1⟩,
       ⟨6, ⟨(some 12), .load 4 true (.tmp 3), none⟩, [], 2⟩,
       ⟨7, ⟨(some 13), .build [(.int .i64 0), (.int .i64 0), (.int .i64 0), (.int .i64 0), (.int .u64 0), (.int .u64 0)] [(0, 1, (.const (.int .i64 7))), (2, 4, (.tmp 12))], none⟩, [6], 2⟩,
       ⟨8, ⟨(some 14), .bslice 1 [(.int .i64 0), (.int .i64 0), (.int .i64 0), (.int .i64 0), (.int .u64 0), (.int .u64 0)] [(0, 6, (.tmp 13))], none⟩, [7, 6], 2⟩,
       ⟨9, ⟨(some 15), .build [(.int .i64 0), (.str ⟨#[]⟩), (.slice none 0 (.fix 0)), (.slice none 0 (.fix 0)), (.str ⟨#[]⟩)] [(0, 1, (.const (.int .i64 3))), (1, 1, (.const (.str ⟨#[102, 111, 114, 119, 97, 114, 100]⟩))), (2, 1, (.tmp 11)), (3, 1, (.tmp 14))], none⟩, [5, 4, 8, 7, 6], 3⟩,
       ⟨10, ⟨(some 16), .build [(.str ⟨#[]⟩), (.int .i64 0)] [(0, 1, (.const (.str ⟨#[120]⟩))), (1, 1, (.const (.int .i64 4)))], none⟩, [], 3⟩,
       ⟨11, ⟨(some 17), .bslice 1 [(.str ⟨#[]⟩), (.int .i64 0)] [(0, 2, (.tmp 16))], none⟩, [10], 3⟩,
       ⟨12, ⟨(some 18), .load 4 true (.tmp 3), none⟩, [], 4⟩,
       ⟨13, ⟨(some 19), .build [(.int .i64 0), (.int .i64 0), (.int .i64 0), (.int .i64 0), (.int .u64 0), (.int .u64 0)] [(0, 1, (.const (.int .i64 1))), (1, 1, (.const (.int .i64 5))), (2, 4, (.tmp 18))], none⟩, [12], 4⟩,
       ⟨14, ⟨(some 20), .build [(.int .i64 0), (.int .i64 0), (.int .u64 0), (.int .u64 0)] [(0, 1, (.const (.int .i64 2))), (1, 1, (.const (.int .i64 5)))], none⟩, [], 4⟩,
       ⟨15, ⟨(some 21), .build [(.int .i64 0), (.int .i64 0), (.int .i64 0), (.int .i64 0), (.int .u64 0), (.int .u64 0)] [(0, 1, (.const (.int .i64 2))), (1, 1, (.const (.int .i64 3))), (2, 4, (.tmp 20))], none⟩, [14], 4⟩,
       ⟨16, ⟨(some 22), .bslice 2 [(.int .i64 0), (.int .i64 0), (.int .i64 0), (.int .i64 0), (.int .u64 0), (.int .u64 0), (.int .i64 0), (.int .i64 0), (.int .i64 0), (.int .i64 0), (.int .u64 0), (.int .u64 0)] [(0, 6, (.tmp 19)), (6, 6, (.tmp 21))], none⟩, [13, 12, 15, 14], 4⟩,
       ⟨17, ⟨(some 23), .build [(.int .i64 0), (.str ⟨#[]⟩), (.slice none 0 (.fix 0)), (.slice none 0 (.fix 0)), (.str ⟨#[]⟩)] [(0, 1, (.const (.int .i64 4))), (1, 1, (.const (.str ⟨#[116, 97, 103]⟩))), (2, 1, (.tmp 17)), (3, 1, (.tmp 22))], none⟩, [11, 10, 16, 13, 12, 15, 14], 5⟩,
       ⟨18, ⟨(some 24), .build [(.str ⟨#[]⟩), (.int .i64 0)] [(0, 1, (.const (.str ⟨#[120]⟩))), (1, 1, (.const (.int .i64 4)))], none⟩, [], 5⟩,
       ⟨19, ⟨(some 25), .build [(.str ⟨#[]⟩), (.int .i64 0)] [(0, 1, (.const (.str ⟨#[121]⟩))), (1, 1, (.const (.int .i64 12)))], none⟩, [], 5⟩,
       ⟨20, ⟨(some 26), .bslice 2 [(.str ⟨#[]⟩), (.int .i64 0), (.str ⟨#[]⟩), (.int .i64 0)] [(0, 2, (.tmp 24)), (2, 2, (.tmp 25))], none⟩, [18, 19], 5⟩,
       ⟨21, ⟨(some 27), .build [(.int .i64 0), (.int .i64 0), (.int .i64 0), (.int .i64 0), (.int .u64 0), (.int .u64 0)] [(0, 1, (.const (.int .i64 4))), (1, 1, (.const (.int .i64 3)))], none⟩, [], 6⟩,
       ⟨22, ⟨(some 28), .load 4 true (.tmp 3), none⟩, [], 6⟩,
       ⟨23, ⟨(some 29), .build [(.int .i64 0), (.int .i64 0), (.int .i64 0), (.int .i64 0), (.int .u64 0), (.int .u64 0)] [(0, 1, (.const (.int .i64 1))), (1, 1, (.const (.int .i64 9))), (2, 4, (.tmp 28))], none⟩, [22], 6⟩,
       ⟨24, ⟨(some 30), .build [(.int .i64 0), (.int .i64 0), (.int .u64 0), (.int .u64 0)] [(0, 1, (.const (.int .i64 3))), (1, 1, (.const (.int .i64 1)))], none⟩, [], 6⟩,
       ⟨25, ⟨(some 31), .build [(.int .i64 0), (.int .i64 0), (.int .i64 0), (.int .i64 0), (.int .u64 0), (.int .u64 0)] [(0, 1, (.const (.int .i64 3))), (1, 1, (.const (.int .i64 8))), (2, 4, (.tmp 30))], none⟩, [24], 6⟩,
       ⟨26, ⟨(some 32), .bslice 3 [(.int .i64 0), (.int .i64 0), (.int .i64 0), (.int .i64 0), (.int .u64 0), (.int .u64 0), (.int .i64 0), (.int .i64 0), (.int .i64 0), (.int .i64 0), (.int .u64 0), (.int .u64 0), (.int .i64 0), (.int .i64 0), (.int .i64 0), (.int .i64 0), (.int .u64 0), (.int .u64 0)] [(0, 6, (.tmp 27)), (6, 6, (.tmp 29)), (12, 6, (.tmp 31))], none⟩, [21, 23, 22, 25, 24], 6⟩,
       ⟨27, ⟨(some 33), .build [(.int .i64 0), (.str ⟨#[]⟩), (.slice none 0 (.fix 0)), (.slice none 0 (.fix 0)), (.str ⟨#[]⟩)] [(0, 1, (.const (.int .i64 5))), (1, 1, (.const (.str ⟨#[119, 114, 97, 112]⟩))), (2, 1, (.tmp 26)), (3, 1, (.tmp 32))], none⟩, [20, 18, 19, 26, 21, 23, 22, 25, 24], 7⟩,
       ⟨28, ⟨(some 34), .move (.tmp 0), none⟩, [], 7⟩,
       ⟨29, ⟨(some 35), .call 20 [(.tmp 34), (.const (.int .i64 2))], none⟩, [28], 7⟩,
       ⟨30, ⟨(some 36), .bin .add (.const (.int .i64 2)) (.tmp 35), none⟩, [29, 28], 7⟩,
       ⟨31, ⟨(some 37), .build [(.int .i64 0), (.int .i64 0), (.int .i64 0), (.int .i64 0), (.int .u64 0), (.int .u64 0)] [(0, 1, (.const (.int .i64 5))), (1, 1, (.tmp 36))], none⟩, [30, 29, 28], 7⟩,
       ⟨32, ⟨(some 38), .move (.tmp 0), none⟩, [], 7⟩,
       ⟨33, ⟨(some 39), .call 20 [(.tmp 38), (.const (.int .i64 256))], none⟩, [32, 29, 28], 7⟩,
       ⟨34, ⟨(some 40), .conv .u64 (.tmp 39), none⟩, [33, 32, 29, 28], 7⟩,
       ⟨35, ⟨(some 41), .build [(.int .u64 0), (.int .u64 0)] [(1, 1, (.tmp 40))], none⟩, [34, 33, 32, 29, 28], 7⟩,
       ⟨36, ⟨(some 42), .build [(.int .i64 0), (.int .i64 0), (.int .u64 0), (.int .u64 0)] [(0, 1, (.const (.int .i64 1))), (2, 2, (.tmp 41))], none⟩, [35, 34, 33, 32, 29, 28], 7⟩,
       ⟨37, ⟨(some 43), .build [(.int .i64 0), (.int .i64 0), (.int .i64 0), (.int .i64 0), (.int .u64 0), (.int .u64 0)] [(0, 1, (.const (.int .i64 2))), (1, 1, (.const (.int .i64 6))), (2, 4, (.tmp 42))], none⟩, [36, 35, 34, 33, 32, 29, 28], 7⟩,
       ⟨38, ⟨(some 44), .bslice 2 [(.int .i64 0), (.int .i64 0), (.int .i64 0), (.int .i64 0), (.int .u64 0), (.int .u64 0), (.int .i64 0), (.int .i64 0), (.int .i64 0), (.int .i64 0), (.int .u64 0), (.int .u64 0)] [(0, 6, (.tmp 37)), (6, 6, (.tmp 43))], none⟩, [31, 30, 29, 28, 37, 36, 35, 34, 33, 32], 7⟩,
       ⟨39, ⟨(some 45), .build [(.int .i64 0), (.str ⟨#[]⟩), (.slice none 0 (.fix 0)), (.slice none 0 (.fix 0)), (.str ⟨#[]⟩)] [(0, 1, (.const (.int .i64 6))), (1, 1, (.const (.str ⟨#[115, 116, 114, 105, 112]⟩))), (3, 1, (.tmp 44))], none⟩, [38, 31, 30, 29, 28, 37, 36, 35, 34, 33, 32], 8⟩,
       ⟨40, ⟨(some 46), .bslice 6 [(.int .i64 0), (.str ⟨#[]⟩), (.slice none 0 (.fix 0)), (.slice none 0 (.fix 0)), (.str ⟨#[]⟩), (.int .i64 0), (.str ⟨#[]⟩), (.slice none 0 (.fix 0)), (.slice none 0 (.fix 0)), (.str ⟨#[]⟩), (.int .i64 0), (.str ⟨#[]⟩), (.slice none 0 (.fix 0)), (.slice none 0 (.fix 0)), (.str ⟨#[]⟩), (.int .i64 0), (.str ⟨#[]⟩), (.slice none 0 (.fix 0)), (.slice none 0 (.fix 0)), (.str ⟨#[]⟩), (.int .i64 0), (.str ⟨#[]⟩), (.slice none 0 (.fix 0)), (.slice none 0 (.fix 0)), (.str ⟨#[]⟩), (.int .i64 0), (.str ⟨#[]⟩), (.slice none 0 (.fix 0)), (.slice none 0 (.fix 0)), (.str ⟨#[]⟩)] [(0, 5, (.tmp 6)), (5, 5, (.tmp 9)), (10, 5, (.tmp 15)), (15, 5, (.tmp 23)), (20, 5, (.tmp 33)), (25, 5, (.tmp 45))], none⟩, [0, 3, 2, 1, 9, 5, 4, 8, 7, 6, 17, 11, 10, 16, 13, 12, 15, 14, 27, 20, 18, 19, 26, 21, 23, 22, 25, 24, 39, 38, 31, 30, 29, 28, 37, 36, 35, 34, 33, 32], 8⟩,
       ⟨41, ⟨(some 4), .move (.tmp 46), none⟩, [40, 0, 3, 2, 1, 9, 5, 4, 8, 7, 6, 17, 11, 10, 16, 13, 12, 15, 14, 27, 20, 18, 19, 26, 21, 23, 22, 25, 24, 39, 38, 31, 30, 29, 28, 37, 36, 35, 34, 33, 32], 9⟩])
     (.seq
      (.seq
       (.ops [
         ⟨(some 47), .move (.tmp 0), none⟩,
         ⟨(some 48), .call 46 [(.tmp 47)], none⟩])
       (.cond (.tmp 48)
        (.ops [
          ⟨(some 49), .move (.tmp 4), none⟩,
          ⟨(some 50), .idxSl (.tmp 49) (.const (.int .i64 2)) 5, none⟩,
          ⟨(some 51), .off (.tmp 50) 4, none⟩,
          ⟨none, .store 1 (.tmp 51) (.const (.str ⟨#[112, 111, 114, 116, 32, 33, 61, 32, 48]⟩)), none⟩])
        .skip))
      (.seq
       (.seq
        (.ops [
          ⟨(some 52), .move (.tmp 0), none⟩,
          ⟨(some 53), .call 46 [(.tmp 52)], none⟩])
        (.cond (.tmp 53)
         (.ops [
           ⟨(some 54), .move (.tmp 4), none⟩,
           ⟨(some 55), .idxSl (.tmp 54) (.const (.int .i64 4)) 5, none⟩,
           ⟨(some 56), .off (.tmp 55) 4, none⟩,
           ⟨none, .store 1 (.tmp 56) (.const (.str ⟨#[120, 32, 60, 32, 121, 32, 124, 124, 32, 120, 32, 61, 61, 32, 49, 53]⟩)), none⟩])
         .skip))
       (.seq
        (.ops [
          ⟨(some 57), .move (.tmp 4), none⟩,
          ⟨(some 2), .move (.tmp 57), none⟩])
        .ret))))))⟩
theorem t43_ok : goodFn Try.prog 43 = true ∧ cfn Try.prog 43 = t43 := ⟨by kernel_rfl, by kernel_rfl⟩

/-- (*matchguard/matchguardcase.Codes).tables -/
def t44 : NFn := ⟨98, [(.tmp 2)],
  (.seq
   (.ops [
     ⟨(some 2), .move (.const (.slice none 0 (.fix 0))), none⟩])
   (.seq
    (.ops [
      ⟨(some 10), .build [(.str ⟨#[]⟩), (.int .i64 0), (.int .i64 0)] [(0, 1, (.const (.str ⟨#[97]⟩))), (1, 1, (.const (.int .i64 4))), (2, 1, (.const (.int .i64 1)))], none⟩,
      ⟨(some 11), .bslice 1 [(.str ⟨#[]⟩), (.int .i64 0), (.int .i64 0)] [(0, 3, (.tmp 10))], none⟩,
      ⟨(some 12), .bslice 3 [(.int .i64 0), (.int .i64 0), (.int .i64 0)] [(0, 1, (.const (.int .i64 1))), (1, 1, (.const (.int .i64 2))), (2, 1, (.const (.int .i64 4)))], none⟩,
      ⟨(some 13), .move (.tmp 0), none⟩,
      ⟨(some 14), .call 20 [(.tmp 13), (.const (.int .i64 2))], none⟩,
      ⟨(some 15), .bin .add (.const (.int .i64 1)) (.tmp 14), none⟩,
      ⟨(some 16), .move (.tmp 0), none⟩,
      ⟨(some 17), .call 20 [(.tmp 16), (.const (.int .i64 5))], none⟩,
      ⟨(some 18), .bin .add (.const (.int .i64 2)) (.tmp 17), none⟩,
      ⟨(some 19), .build [(.int .i64 0), (.str ⟨#[]⟩), (.slice none 0 (.fix 0)), (.slice none 0 (.fix 0)), (.int .i64 0), (.slice none 0 (.fix 0)), (.int .i64 0), (.str ⟨#[]⟩)] [(0, 1, (.const (.int .i64 1))), (1, 1, (.const (.str ⟨#[112, 111, 114, 116, 115]⟩))), (2, 1, (.tmp 11)), (3, 1, (.tmp 12)), (4, 1, (.tmp 15)), (6, 1, (.tmp 18))], none⟩,
      ⟨(some 3), .alloc [(.int .i64 0), (.str ⟨#[]⟩), (.slice none 0 (.fix 0)), (.slice none 0 (.fix 0)), (.int .i64 0), (.slice none 0 (.fix 0)), (.int .i64 0), (.str ⟨#[]⟩)], none⟩,
      ⟨none, .store 8 (.tmp 3) (.tmp 19), none⟩])
    (.seq
     (.ops [
       ⟨(some 20), .build [(.str ⟨#[]⟩), (.int .i64 0), (.int .i64 0)] [(0, 1, (.const (.str ⟨#[100]⟩))), (1, 1, (.const (.int .i64 7))), (2, 1, (.const (.int .i64 2)))], none⟩,
       ⟨(some 21), .bslice 1 [(.str ⟨#[]⟩), (.int .i64 0), (.int .i64 0)] [(0, 3, (.tmp 20))], none⟩,
       ⟨(some 22), .bslice 4 [(.int .i64 0), (.int .i64 0), (.int .i64 0), (.int .i64 0)] [(0, 1, (.const (.int .i64 1))), (1, 1, (.const (.int .i64 2))), (2, 1, (.const (.int .i64 3))), (3, 1, (.const (.int .i64 4)))], none⟩,
       ⟨(some 23), .move (.tmp 0), none⟩,
       ⟨(some 24), .call 20 [(.tmp 23), (.const (.int .i64 6))], none⟩,
       ⟨(some 25), .bin .add (.const (.int .i64 3)) (.tmp 24), none⟩,
       ⟨(some 26), .build [(.int .i64 0), (.str ⟨#[]⟩), (.slice none 0 (.fix 0)), (.slice none 0 (.fix 0)), (.int .i64 0), (.slice none 0 (.fix 0)), (.int .i64 0), (.str ⟨#[]⟩)] [(0, 1, (.const (.int .i64 2))), (1, 1, (.const (.str ⟨#[114, 111, 117, 116, 101, 115]⟩))), (2, 1, (.tmp 21)), (3, 1, (.tmp 22)), (4, 1, (.const (.int .i64 2))), (6, 1, (.tmp 25))], none⟩,
       ⟨(some 4), .alloc [(.int .i64 0), (.str ⟨#[]⟩), (.slice none 0 (.fix 0)), (.slice none 0 (.fix 0)), (.int .i64 0), (.slice none 0 (.fix 0)), (.int .i64 0), (.str ⟨#[]⟩)], none⟩,
       ⟨none, .store 8 (.tmp 4) (.tmp 26), none⟩])
     (.seq
      (.seq
       (.ops [
         ⟨(some 27), .move (.tmp 0), none⟩,
         ⟨(some 28), .call 46 [(.tmp 27)], none⟩])
       (.cond (.tmp 28)
        (.ops [
          ⟨(some 29), .off (.tmp 4) 2, none⟩,
          ⟨(some 30), .load 1 false (.tmp 29), none⟩,
          ⟨(some 31), .build [(.str ⟨#[]⟩), (.int .i64 0), (.int .i64 0)] [(0, 1, (.const (.str ⟨#[109]⟩))), (1, 1, (.const (.int .i64 3))), (2, 1, (.const (.int .i64 1)))], none⟩,
          ⟨(some 32), .bslice 1 [(.str ⟨#[]⟩), (.int .i64 0), (.int .i64 0)] [(0, 3, (.tmp 31))], none⟩,
          ⟨(some 33), .append 3 32 (.tmp 30) (.tmp 32), none⟩,
          ⟨(some 34), .off (.tmp 4) 2, none⟩,
          ⟨none, .store 1 (.tmp 34) (.tmp 33), none⟩])
        .skip))
      (.seq
       (.ops [
         ⟨(some 35), .build [(.str ⟨#[]⟩), (.int .i64 0), (.int .i64 0)] [(0, 1, (.const (.str ⟨#[101]⟩))), (1, 1, (.const (.int .i64 6))), (2, 1, (.const (.int .i64 3)))], none⟩,
         ⟨(some 36), .build [(.str ⟨#[]⟩), (.int .i64 0), (.int .i64 0)] [(0, 1, (.const (.str ⟨#[97]⟩))), (1, 1, (.const (.int .i64 4))), (2, 1, (.const (.int .i64 3)))], none⟩,
         ⟨(some 37), .bslice 2 [(.str ⟨#[]⟩), (.int .i64 0), (.int .i64 0), (.str ⟨#[]⟩), (.int .i64 0), (.int .i64 0)] [(0, 3, (.tmp 35)), (3, 3, (.tmp 36))], none⟩,
         ⟨(some 38), .bslice 5 [(.int .i64 0), (.int .i64 0), (.int .i64 0), (.int .i64 0), (.int .i64 0)] [(0, 1, (.const (.int .i64 1))), (1, 1, (.const (.int .i64 2))), (2, 1, (.const (.int .i64 3))), (3, 1, (.const (.int .i64 5))), (4, 1, (.const (.int .i64 6)))], none⟩,
         ⟨(some 39), .move (.tmp 0), none⟩,
         ⟨(some 40), .call 20 [(.tmp 39), (.const (.int .i64 6))], none⟩,
         ⟨(some 41), .bin .add (.const (.int .i64 4)) (.tmp 40), none⟩,
         ⟨(some 42), .build [(.int .i64 0), (.str ⟨#[]⟩), (.slice none 0 (.fix 0)), (.slice none 0 (.fix 0)), (.int .i64 0), (.slice none 0 (.fix 0)), (.int .i64 0), (.str ⟨#[]⟩)] [(0, 1, (.const (.int .i64 3))), (1, 1, (.const (.str ⟨#[97, 99, 108]⟩))), (2, 1, (.tmp 37)), (3, 1, (.tmp 38)), (4, 1, (.const (.int .i64 1))), (6, 1, (.tmp 41))], none⟩,
         ⟨(some 5), .alloc [(.int .i64 0), (.str ⟨#[]⟩), (.slice none 0 (.fix 0)), (.slice none 0 (.fix 0)), (.int .i64 0), (.slice none 0 (.fix 0)), (.int .i64 0), (.str ⟨#[]⟩)], none⟩,
         ⟨none, .store 8 (.tmp 5) (.tmp 42), none⟩])
       (.seq
        (.seq
         (.ops [
           ⟨(some 43), .move (.tmp 0), none⟩,
           ⟨(some 44), .call 46 [(.tmp 43)], none⟩])
         (.cond (.tmp 44)
          (.ops [
            ⟨(some 45), .off (.tmp 5) 2, none⟩,
            ⟨(some 46), .load 1 false (.tmp 45), none⟩,
            ⟨(some 47), .build [(.str ⟨#[]⟩), (.int .i64 0), (.int .i64 0)] [(0, 1, (.const (.str ⟨#[98]⟩))), (1, 1, (.const (.int .i64 5))), (2, 1, (.const (.int .i64 1)))], none⟩,
            ⟨(some 48), .bslice 1 [(.str ⟨#[]⟩), (.int .i64 0), (.int .i64 0)] [(0, 3, (.tmp 47))], none⟩,
            ⟨(some 49), .append 3 32 (.tmp 46) (.tmp 48), none⟩,
            ⟨(some 50), .off (.tmp 5) 2, none⟩,
            ⟨none, .store 1 (.tmp 50) (.tmp 49), none⟩])
          .skip))
        (.seq
         (.ops [
           ⟨(some 51), .build [(.str ⟨#[]⟩), (.int .i64 0), (.int .i64 0)] [(0, 1, (.const (.str ⟨#[102]⟩))), (1, 1, (.const (.int .i64 8))), (2, 1, (.const (.int .i64 4)))], none⟩,
           ⟨(some 52), .bslice 1 [(.str ⟨#[]⟩), (.int .i64 0), (.int .i64 0)] [(0, 3, (.tmp 51))], none⟩,
           ⟨(some 53), .bslice 3 [(.int .i64 0), (.int .i64 0), (.int .i64 0)] [(0, 1, (.const (.int .i64 1))), (1, 1, (.const (.int .i64 3))), (2, 1, (.const (.int .i64 5)))], none⟩,
           ⟨(some 54), .build [(.int .u64 0), (.int .u64 0)] [(1, 1, (.const (.int .u64 7)))], none⟩,
           ⟨(some 55), .bslice 1 [(.int .u64 0), (.int .u64 0)] [(0, 2, (.tmp 54))], none⟩,
           ⟨(some 56), .move (.tmp 0), none⟩,
           ⟨(some 57), .call 20 [(.tmp 56), (.const (.int .i64 5))], none⟩,
           ⟨(some 58), .bin .add (.const (.int .i64 3)) (.tmp 57), none⟩,
           ⟨(some 59), .build [(.int .i64 0), (.str ⟨#[]⟩), (.slice none 0 (.fix 0)), (.slice none 0 (.fix 0)), (.int .i64 0), (.slice none 0 (.fix 0)), (.int .i64 0), (.str ⟨#[]⟩)] [(0, 1, (.const (.int .i64 4))), (1, 1, (.const (.str ⟨#[115, 112, 97, 110, 115]⟩))), (2, 1, (.tmp 52)), (3, 1, (.tmp 53)), (4, 1, (.const (.int .i64 3))), (5, 1, (.tmp 55)), (6, 1, (.tmp 58))], none⟩,
           ⟨(some 6), .alloc [(.int .i64 0), (.str ⟨#[]⟩), (.slice none 0 (.fix 0)), (.slice none 0 (.fix 0)), (.int .i64 0), (.slice none 0 (.fix 0)), (.int .i64 0), (.str ⟨#[]⟩)], none⟩,
           ⟨none, .store 8 (.tmp 6) (.tmp 59), none⟩])
         (.seq
          (.seq
           (.ops [
             ⟨(some 60), .move (.tmp 0), none⟩,
             ⟨(some 61), .call 46 [(.tmp 60)], none⟩])
           (.cond (.tmp 61)
            (.ops [
              ⟨(some 62), .off (.tmp 6) 2, none⟩,
              ⟨(some 63), .load 1 false (.tmp 62), none⟩,
              ⟨(some 64), .build [(.str ⟨#[]⟩), (.int .i64 0), (.int .i64 0)] [(0, 1, (.const (.str ⟨#[103]⟩))), (1, 1, (.const (.int .i64 9))), (2, 1, (.const (.int .i64 1)))], none⟩,
              ⟨(some 65), .build [(.str ⟨#[]⟩), (.int .i64 0), (.int .i64 0)] [(0, 1, (.const (.str ⟨#[100]⟩))), (1, 1, (.const (.int .i64 7))), (2, 1, (.const (.int .i64 2)))], none⟩,
              ⟨(some 66), .bslice 2 [(.str ⟨#[]⟩), (.int .i64 0), (.int .i64 0), (.str ⟨#[]⟩), (.int .i64 0), (.int .i64 0)] [(0, 3, (.tmp 64)), (3, 3, (.tmp 65))], none⟩,
              ⟨(some 67), .append 3 32 (.tmp 63) (.tmp 66), none⟩,
              ⟨(some 68), .off (.tmp 6) 2, none⟩,
              ⟨none, .store 1 (.tmp 68) (.tmp 67), none⟩])
            .skip))
          (.seq
           (.ops [
             ⟨(some 69), .load 8 true (.tmp 3), none⟩,
             ⟨(some 70), .load 8 true (.tmp 4), none⟩,
             ⟨(some 71), .load 8 true (.tmp 5), none⟩,
             ⟨(some 72), .load 8 true (.tmp 6), none⟩,
             ⟨(some 73), .bslice 4 [(.int .i64 0), (.str ⟨#[]⟩), (.slice none 0 (.fix 0)), (.slice none 0 (.fix 0)), (.int .i64 0), (.slice none 0 (.fix 0)), (.int .i64 0), (.str ⟨#[]⟩), (.int .i64 0), (.str ⟨#[]⟩), (.slice none 0 (.fix 0)), (.slice none 0 (.fix 0)), (.int .i64 0), (.slice none 0 (.fix 0)), (.int .i64 0), (.str ⟨#[]⟩), (.int .i64 0), (.str ⟨#[]⟩), (.slice none 0 (.fix 0)), (.slice none 0 (.fix 0)), (.int .i64 0), (.slice none 0 (.fix 0)), (.int .i64 0), (.str ⟨#[]⟩), (.int .i64 0), (.str ⟨#[]⟩), (.slice none 0 (.fix 0)), (.slice none 0 (.fix 0)), (.int .i64 0), (.slice none 0 (.fix 0)), (.int .i64 0), (.str ⟨#[]⟩)] [(0, 8, (.tmp 69)), (8, 8, (.tmp 70)), (16, 8, (.tmp 71)), (24, 8, (.tmp 72))], none⟩,
             ⟨(some 7), .move (.tmp 73), none⟩])
           (.seq
            (.ops [
              ⟨(some 74), .bslice 3 [(.str ⟨#[]⟩), (.str ⟨#[]⟩), (.str ⟨#[]⟩)] [(0, 1, (.const (.str ⟨#[]⟩))), (1, 1, (.const (.str ⟨#[97, 32, 33, 61, 32, 48]⟩))), (2, 1, (.const (.str ⟨#[97, 32, 60, 32, 49, 52, 32, 38, 38, 32, 97, 32, 33, 61, 32, 51]⟩)))], none⟩,
              ⟨(some 75), .bslice 3 [(.str ⟨#[]⟩), (.str ⟨#[]⟩), (.str ⟨#[]⟩)] [(0, 1, (.const (.str ⟨#[]⟩))), (1, 1, (.const (.str ⟨#[100, 58, 58, 112, 114, 101, 102, 105, 120, 95, 108, 101, 110, 103, 116, 104, 32, 62, 61, 32, 56]⟩))), (2, 1, (.const (.str ⟨#[100, 58, 58, 112, 114, 101, 102, 105, 120, 95, 108, 101, 110, 103, 116, 104, 32, 61, 61, 32, 51, 50, 32, 45, 62, 32, 100, 58, 58, 118, 97, 108, 117, 101, 32, 62, 32, 48, 120, 102, 102]⟩)))], none⟩,
              ⟨(some 76), .bslice 3 [(.str ⟨#[]⟩), (.str ⟨#[]⟩), (.str ⟨#[]⟩)] [(0, 1, (.const (.str ⟨#[]⟩))), (1, 1, (.const (.str ⟨#[112, 114, 105, 111, 114, 105, 116, 121, 32, 60, 32, 49, 48, 48, 32, 38, 38, 32, 40, 101, 58, 58, 109, 97, 115, 107, 32, 33, 61, 32, 48, 32, 124, 124, 32, 97, 58, 58, 109, 97, 115, 107, 32, 33, 61, 32, 48, 41]⟩))), (2, 1, (.const (.str ⟨#[101, 58, 58, 109, 97, 115, 107, 32, 61, 61, 32, 48, 32, 45, 62, 32, 112, 114, 105, 111, 114, 105, 116, 121, 32, 62, 32, 53]⟩)))], none⟩,
              ⟨(some 77), .bslice 3 [(.str ⟨#[]⟩), (.str ⟨#[]⟩), (.str ⟨#[]⟩)] [(0, 1, (.const (.str ⟨#[]⟩))), (1, 1, (.const (.str ⟨#[102, 58, 58, 104, 105, 103, 104, 32, 45, 32, 102, 58, 58, 108, 111, 119, 32, 60, 61, 32, 48, 120, 49, 48, 48]⟩))), (2, 1, (.const (.str ⟨#[33, 40, 102, 58, 58, 108, 111, 119, 32, 61, 61, 32, 48, 32, 38, 38, 32, 102, 58, 58, 104, 105, 103, 104, 32, 62, 32, 49, 48, 48, 48, 41]⟩)))], none⟩,
              ⟨(some 78), .bslice 4 [(.slice none 0 (.fix 0)), (.slice none 0 (.fix 0)), (.slice none 0 (.fix 0)), (.slice none 0 (.fix 0))] [(0, 1, (.tmp 74)), (1, 1, (.tmp 75)), (2, 1, (.tmp 76)), (3, 1, (.tmp 77))], none⟩,
              ⟨(some 8), .move (.tmp 78), none⟩])
            (.seq
             (.seq
              (.ops [
                ⟨(some 79), .move (.tmp 7), none⟩,
                ⟨(some 80), .lenSl (.tmp 79), none⟩,
                ⟨(some 81), .move (.const (.int .i64 0)), none⟩])
              (.block 0
               (.loop
                (.seq
                 (.ops [
                   ⟨(some 82), .bin .lss (.tmp 81) (.tmp 80), none⟩])
                 (.seq
                  (.cond (.tmp 82)
                   .skip
                   (.exit 0))
                  (.seq
                   (.block 1
                    (.seq
                     (.ops [
                       ⟨(some 83), .move (.tmp 81), none⟩,
                       ⟨(some 9), .move (.tmp 83), none⟩])
                     (.draw 0 [
                       ⟨0, ⟨(some 84), .move (.tmp 7), none⟩, [], 0⟩,
                       ⟨1, ⟨(some 85), .move (.tmp 9), none⟩, [], 0⟩,
                       ⟨2, ⟨(some 86), .move (.tmp 8), none⟩, [], 0⟩,
                       ⟨3, ⟨(some 87), .move (.tmp 9), none⟩, [], 0⟩,
                       ⟨4, ⟨(some 88), .idxSl (.tmp 86) (.tmp 87) 1, none⟩, [2, 3], 0⟩,
                       ⟨5, ⟨(some 89), .load 1 false (.tmp 88), none⟩, [4, 2, 3], 0⟩,
                       ⟨6, ⟨(some 90), .move (.tmp 0), none⟩, [], 0⟩,
                       ⟨7, ⟨(some 91), .call 20 [(.tmp 90), (.const (.int .i64 3))], none⟩, [6], 0⟩,
                       ⟨8, ⟨(some 92), .idxSl (.tmp 89) (.tmp 91) 1, none⟩, [5, 4, 2, 3, 7, 6], 0⟩,
                       ⟨9, ⟨(some 93), .load 1 false (.tmp 92), none⟩, [8, 5, 4, 2, 3, 7, 6], 0⟩,
                       ⟨10, ⟨(some 94), .idxSl (.tmp 84) (.tmp 85) 8, none⟩, [0, 1, 2, 3, 4, 5, 6, 7, 8, 9], 0⟩,
                       ⟨11, ⟨(some 95), .off (.tmp 94) 7, none⟩, [10, 0, 1, 2, 3, 4, 5, 6, 7, 8, 9], 0⟩,
                       ⟨12, ⟨none, .store 1 (.tmp 95) (.tmp 93), none⟩, [11, 10, 0, 1, 2, 3, 4, 5, 6, 7, 8, 9], 0⟩])))
                   (.ops [
                     ⟨(some 96), .bin .add (.tmp 81) (.const (.int .i64 1)), none⟩,
                     ⟨(some 81), .move (.tmp 96), none⟩])))))))
             (.seq
              (.ops [
                ⟨(some 97), .move (.tmp 7), none⟩,
                ⟨(some 2), .move (.tmp 97), none⟩])
              .ret))))))))))))⟩
theorem t44_ok : goodFn Try.prog 44 = true ∧ cfn Try.prog 44 = t44 := ⟨by kernel_rfl, by kernel_rfl⟩

/-- (*matchguard/matchguardcase.Codes).roles -/
def t45 : NFn := ⟨105, [(.tmp 4)],
  (.seq
   (.ops [
     ⟨(some 4), .move (.const (.slice none 0 (.fix 0))), none⟩])
   (.seq
    (.ops [
      ⟨(some 13), .bslice 6 [(.int .i64 0), (.int .i64 0), (.int .i64 0), (.int .i64 0), (.int .i64 0), (.int .i64 0)] [(0, 1, (.const (.int .i64 1))), (1, 1, (.const (.int .i64 2))), (2, 1, (.const (.int .i64 3))), (3, 1, (.const (.int .i64 4))), (4, 1, (.const (.int .i64 5))), (5, 1, (.const (.int .i64 6)))], none⟩,
      ⟨(some 14), .build [(.int .i64 0), (.str ⟨#[]⟩), (.slice none 0 (.fix 0)), (.slice none 0 (.fix 0)), (.int .i64 0), (.bool false)] [(0, 1, (.const (.int .i64 1))), (1, 1, (.const (.str ⟨#[97, 108, 108]⟩))), (3, 1, (.tmp 13)), (4, 1, (.const (.int .i64 40))), (5, 1, (.const (.bool true)))], none⟩,
      ⟨(some 5), .alloc [(.int .i64 0), (.str ⟨#[]⟩), (.slice none 0 (.fix 0)), (.slice none 0 (.fix 0)), (.int .i64 0), (.bool false)], none⟩,
      ⟨none, .store 6 (.tmp 5) (.tmp 14), none⟩])
    (.seq
     (.ops [
       ⟨(some 15), .move (.tmp 0), none⟩,
       ⟨(some 16), .call 20 [(.tmp 15), (.const (.int .i64 3))], none⟩,
       ⟨(some 17), .bin .add (.const (.int .i64 3)) (.tmp 16), none⟩,
       ⟨(some 18), .bslice 3 [(.int .i64 0), (.int .i64 0), (.int .i64 0)] [(0, 1, (.const (.int .i64 1))), (1, 1, (.const (.int .i64 2))), (2, 1, (.tmp 17))], none⟩,
       ⟨(some 19), .move (.tmp 0), none⟩,
       ⟨(some 20), .call 20 [(.tmp 19), (.const (.int .i64 6))], none⟩,
       ⟨(some 21), .bin .add (.const (.int .i64 1)) (.tmp 20), none⟩,
       ⟨(some 22), .build [(.int .i64 0), (.str ⟨#[]⟩), (.slice none 0 (.fix 0)), (.slice none 0 (.fix 0)), (.int .i64 0), (.bool false)] [(0, 1, (.const (.int .i64 2))), (1, 1, (.const (.str ⟨#[115, 111, 109, 101]⟩))), (3, 1, (.tmp 18)), (4, 1, (.tmp 21))], none⟩,
       ⟨(some 6), .alloc [(.int .i64 0), (.str ⟨#[]⟩), (.slice none 0 (.fix 0)), (.slice none 0 (.fix 0)), (.int .i64 0), (.bool false)], none⟩,
       ⟨none, .store 6 (.tmp 6) (.tmp 22), none⟩])
     (.seq
      (.ops [
        ⟨(some 23), .move (.tmp 0), none⟩,
        ⟨(some 24), .call 20 [(.tmp 23), (.const (.int .i64 6))], none⟩,
        ⟨(some 25), .bin .add (.const (.int .i64 1)) (.tmp 24), none⟩,
        ⟨(some 26), .bslice 1 [(.int .i64 0)] [(0, 1, (.tmp 25))], none⟩,
        ⟨(some 27), .move (.tmp 0), none⟩,
        ⟨(some 28), .call 20 [(.tmp 27), (.const (.int .i64 4))], none⟩,
        ⟨(some 29), .build [(.int .i64 0), (.str ⟨#[]⟩), (.slice none 0 (.fix 0)), (.slice none 0 (.fix 0)), (.int .i64 0), (.bool false)] [(0, 1, (.const (.int .i64 7))), (1, 1, (.const (.str ⟨#[102, 101, 119]⟩))), (3, 1, (.tmp 26)), (4, 1, (.tmp 28))], none⟩,
        ⟨(some 7), .alloc [(.int .i64 0), (.str ⟨#[]⟩), (.slice none 0 (.fix 0)), (.slice none 0 (.fix 0)), (.int .i64 0), (.bool false)], none⟩,
        ⟨none, .store 6 (.tmp 7) (.tmp 29), none⟩])
      (.seq
       (.seq
        (.ops [
          ⟨(some 30), .move (.tmp 1), none⟩,
          ⟨(some 31), .lenSl (.tmp 30), none⟩,
          ⟨(some 32), .move (.const (.int .i64 0)), none⟩])
        (.block 0
         (.loop
          (.seq
           (.ops [
             ⟨(some 33), .bin .lss (.tmp 32) (.tmp 31), none⟩])
           (.seq
            (.cond (.tmp 33)
             .skip
             (.exit 0))
            (.seq
             (.block 1
              (.seq
               (.ops [
                 ⟨(some 34), .idxSl (.tmp 30) (.tmp 32) 8, none⟩,
                 ⟨(some 35), .load 8 true (.tmp 34), none⟩,
                 ⟨(some 9), .alloc [(.int .i64 0), (.str ⟨#[]⟩), (.slice none 0 (.fix 0)), (.slice none 0 (.fix 0)), (.int .i64 0), (.slice none 0 (.fix 0)), (.int .i64 0), (.str ⟨#[]⟩)], none⟩,
                 ⟨none, .store 8 (.tmp 9) (.tmp 35), none⟩])
               (.seq
                (.ops [
                  ⟨(some 36), .off (.tmp 9) 2, none⟩,
                  ⟨(some 37), .load 1 false (.tmp 36), none⟩,
                  ⟨(some 38), .lenSl (.tmp 37), none⟩,
                  ⟨(some 39), .mkslice 1 1 [(.bool false)] (.tmp 38) (.tmp 38), none⟩,
                  ⟨(some 10), .move (.tmp 39), none⟩])
                (.seq
                 (.ops [
                   ⟨(some 40), .off (.tmp 9) 2, none⟩,
                   ⟨(some 41), .load 1 false (.tmp 40), none⟩,
                   ⟨(some 42), .lenSl (.tmp 41), none⟩,
                   ⟨(some 43), .mkslice 1 1 [(.bool false)] (.tmp 42) (.tmp 42), none⟩,
                   ⟨(some 11), .move (.tmp 43), none⟩])
                 (.seq
                  (.seq
                   (.ops [
                     ⟨(some 44), .move (.tmp 10), none⟩,
                     ⟨(some 45), .lenSl (.tmp 44), none⟩,
                     ⟨(some 46), .move (.const (.int .i64 0)), none⟩])
                   (.block 2
                    (.loop
                     (.seq
                      (.ops [
                        ⟨(some 47), .bin .lss (.tmp 46) (.tmp 45), none⟩])
                      (.seq
                       (.cond (.tmp 47)
                        .skip
                        (.exit 2))
                       (.seq
                        (.block 3
                         (.seq
                          (.ops [
                            ⟨(some 48), .move (.tmp 46), none⟩,
                            ⟨(some 12), .move (.tmp 48), none⟩])
                          (.ops [
                            ⟨(some 49), .move (.tmp 10), none⟩,
                            ⟨(some 50), .move (.tmp 12), none⟩,
                            ⟨(some 51), .move (.tmp 11), none⟩,
                            ⟨(some 52), .move (.tmp 12), none⟩,
                            ⟨(some 53), .move (.tmp 0), none⟩,
                            ⟨(some 54), .call 20 [(.tmp 53), (.const (.int .i64 4))], none⟩,
                            ⟨(some 55), .bin .gtr (.tmp 54) (.const (.int .i64 0)), none⟩,
                            ⟨(some 56), .idxSl (.tmp 49) (.tmp 50) 1, none⟩,
                            ⟨none, .store 1 (.tmp 56) (.const (.bool true)), none⟩,
                            ⟨(some 57), .idxSl (.tmp 51) (.tmp 52) 1, none⟩,
                            ⟨none, .store 1 (.tmp 57) (.tmp 55), none⟩])))
                        (.ops [
                          ⟨(some 58), .bin .add (.tmp 46) (.const (.int .i64 1)), none⟩,
                          ⟨(some 46), .move (.tmp 58), none⟩])))))))
                  (.seq
                   (.ops [
                     ⟨(some 59), .off (.tmp 5) 2, none⟩,
                     ⟨(some 60), .load 1 false (.tmp 59), none⟩,
                     ⟨(some 61), .off (.tmp 9) 0, none⟩,
                     ⟨(some 62), .load 1 false (.tmp 61), none⟩,
                     ⟨(some 63), .move (.tmp 10), none⟩,
                     ⟨(some 64), .build [(.int .i64 0), (.bool false), (.bool false), (.slice none 0 (.fix 0))] [(0, 1, (.tmp 62)), (1, 1, (.const (.bool true))), (2, 1, (.const (.bool true))), (3, 1, (.tmp 63))], none⟩,
                     ⟨(some 65), .bslice 1 [(.int .i64 0), (.bool false), (.bool false), (.slice none 0 (.fix 0))] [(0, 4, (.tmp 64))], none⟩,
                     ⟨(some 66), .append 4 40 (.tmp 60) (.tmp 65), none⟩,
                     ⟨(some 67), .off (.tmp 5) 2, none⟩,
                     ⟨none, .store 1 (.tmp 67) (.tmp 66), none⟩])
                   (.seq
                    (.seq
                     (.ops [
                       ⟨(some 68), .move (.tmp 0), none⟩,
                       ⟨(some 69), .call 20 [(.tmp 68), (.const (.int .i64 4))], none⟩,
                       ⟨(some 70), .bin .gtr (.tmp 69) (.const (.int .i64 0)), none⟩])
                     (.cond (.tmp 70)
                      (.draw 1 [
                        ⟨0, ⟨(some 71), .off (.tmp 6) 2, none⟩, [], 0⟩,
                        ⟨1, ⟨(some 72), .load 1 false (.tmp 71), none⟩, [0], 0⟩,
                        ⟨2, ⟨(some 73), .off (.tmp 9) 0, none⟩, [], 0⟩,
                        ⟨3, ⟨(some 74), .load 1 false (.tmp 73), none⟩, [2], 0⟩,
                        ⟨4, ⟨(some 75), .move (.tmp 0), none⟩, [], 0⟩,
                        ⟨5, ⟨(some 76), .call 20 [(.tmp 75), (.const (.int .i64 4))], none⟩, [4], 0⟩,
                        ⟨6, ⟨(some 77), .bin .gtr (.tmp 76) (.const (.int .i64 0)), none⟩, [5, 4], 0⟩,
                        ⟨7, ⟨(some 78), .move (.tmp 0), none⟩, [], 0⟩,
                        ⟨8, ⟨(some 79), .call 46 [(.tmp 78)], none⟩, [7, 5, 4], 0⟩,
                        ⟨9, ⟨(some 80), .move (.tmp 11), none⟩, [], 0⟩,
                        ⟨10, ⟨(some 81), .build [(.int .i64 0), (.bool false), (.bool false), (.slice none 0 (.fix 0))] [(0, 1, (.tmp 74)), (1, 1, (.tmp 77)), (2, 1, (.tmp 79)), (3, 1, (.tmp 80))], none⟩, [3, 2, 6, 5, 4, 8, 7, 9], 0⟩,
                        ⟨11, ⟨(some 82), .bslice 1 [(.int .i64 0), (.bool false), (.bool false), (.slice none 0 (.fix 0))] [(0, 4, (.tmp 81))], none⟩, [10, 3, 2, 6, 5, 4, 8, 7, 9], 0⟩,
                        ⟨12, ⟨(some 83), .append 4 40 (.tmp 72) (.tmp 82), none⟩, [1, 0, 11, 10, 3, 2, 6, 5, 4, 8, 7, 9], 1⟩,
                        ⟨13, ⟨(some 84), .off (.tmp 6) 2, none⟩, [0, 1, 2, 3, 4, 5, 6, 7, 8, 9, 10, 11, 12], 1⟩,
                        ⟨14, ⟨none, .store 1 (.tmp 84) (.tmp 83), none⟩, [13, 0, 1, 2, 3, 4, 5, 6, 7, 8, 9, 10, 11, 12], 1⟩])
                      .skip))
                    (.seq
                     (.ops [
                       ⟨(some 85), .move (.tmp 0), none⟩,
                       ⟨(some 86), .call 46 [(.tmp 85)], none⟩])
                     (.cond (.tmp 86)
                      (.draw 1 [
                        ⟨0, ⟨(some 87), .off (.tmp 7) 2, none⟩, [], 0⟩,
                        ⟨1, ⟨(some 88), .load 1 false (.tmp 87), none⟩, [0], 0⟩,
                        ⟨2, ⟨(some 89), .off (.tmp 9) 0, none⟩, [], 0⟩,
                        ⟨3, ⟨(some 90), .load 1 false (.tmp 89), none⟩, [2], 0⟩,
                        ⟨4, ⟨(some 91), .move (.tmp 0), none⟩, [], 0⟩,
                        ⟨5, ⟨(some 92), .call 46 [(.tmp 91)], none⟩, [4], 0⟩,
                        ⟨6, ⟨(some 93), .move (.tmp 0), none⟩, [], 0⟩,
                        ⟨7, ⟨(some 94), .call 46 [(.tmp 93)], none⟩, [6, 5, 4], 0⟩,
                        ⟨8, ⟨(some 95), .move (.tmp 10), none⟩, [], 0⟩,
                        ⟨9, ⟨(some 96), .build [(.int .i64 0), (.bool false), (.bool false), (.slice none 0 (.fix 0))] [(0, 1, (.tmp 90)), (1, 1, (.tmp 92)), (2, 1, (.tmp 94)), (3, 1, (.tmp 95))], none⟩, [3, 2, 5, 4, 7, 6, 8], 0⟩,
                        ⟨10, ⟨(some 97), .bslice 1 [(.int .i64 0), (.bool false), (.bool false), (.slice none 0 (.fix 0))] [(0, 4, (.tmp 96))], none⟩, [9, 3, 2, 5, 4, 7, 6, 8], 0⟩,
                        ⟨11, ⟨(some 98), .append 4 40 (.tmp 88) (.tmp 97), none⟩, [1, 0, 10, 9, 3, 2, 5, 4, 7, 6, 8], 1⟩,
                        ⟨12, ⟨(some 99), .off (.tmp 7) 2, none⟩, [0, 1, 2, 3, 4, 5, 6, 7, 8, 9, 10, 11], 1⟩,
                        ⟨13, ⟨none, .store 1 (.tmp 99) (.tmp 98), none⟩, [12, 0, 1, 2, 3, 4, 5, 6, 7, 8, 9, 10, 11], 1⟩])
                      .skip)))))))))
             (.ops [
               ⟨(some 100), .bin .add (.tmp 32) (.const (.int .i64 1)), none⟩,
               ⟨(some 32), .move (.tmp 100), none⟩])))))))
       (.seq
        (.ops [
          ⟨(some 101), .load 6 true (.tmp 5), none⟩,
          ⟨(some 102), .load 6 true (.tmp 6), none⟩,
          ⟨(some 103), .load 6 true (.tmp 7), none⟩,
          ⟨(some 104), .bslice 3 [(.int .i64 0), (.str ⟨#[]⟩), (.slice none 0 (.fix 0)), (.slice none 0 (.fix 0)), (.int .i64 0), (.bool false), (.int .i64 0), (.str ⟨#[]⟩), (.slice none 0 (.fix 0)), (.slice none 0 (.fix 0)), (.int .i64 0), (.bool false), (.int .i64 0), (.str ⟨#[]⟩), (.slice none 0 (.fix 0)), (.slice none 0 (.fix 0)), (.int .i64 0), (.bool false)] [(0, 6, (.tmp 101)), (6, 6, (.tmp 102)), (12, 6, (.tmp 103))], none⟩,
          ⟨(some 4), .move (.tmp 104), none⟩])
        .ret))))))⟩
theorem t45_ok : goodFn Try.prog 45 = true ∧ cfn Try.prog 45 = t45 := ⟨by kernel_rfl, by kernel_rfl⟩

/-- (*matchguard/matchguardcase.Codes).Bool -/
def t46 : NFn := ⟨6, [(.tmp 2)],
  (.seq
   (.ops [
     ⟨(some 2), .move (.const (.bool false)), none⟩])
   (.seq
    (.ops [
      ⟨(some 3), .move (.tmp 0), none⟩,
      ⟨(some 4), .call 20 [(.tmp 3), (.const (.int .i64 2))], none⟩,
      ⟨(some 5), .bin .eql (.tmp 4) (.const (.int .i64 1)), none⟩,
      ⟨(some 2), .move (.tmp 5), none⟩])
    .ret))⟩
theorem t46_ok : goodFn Try.prog 46 = true ∧ cfn Try.prog 46 = t46 := ⟨by kernel_rfl, by kernel_rfl⟩

/-- slices.Index[[]matchguard/refs.Target,matchguard/refs.Target] -/
def t47 : NFn := ⟨19, [(.tmp 4)],
  (.seq
   (.ops [
     ⟨(some 3), .box (.tmp 1), none⟩,
     ⟨(some 4), .move (.const (.int .i64 0)), none⟩])
   (.seq
    (.seq
     (.ops [
       ⟨(some 6), .move (.tmp 0), none⟩,
       ⟨(some 7), .lenSl (.tmp 6), none⟩,
       ⟨(some 8), .move (.const (.int .i64 0)), none⟩])
     (.block 0
      (.loop
       (.seq
        (.ops [
          ⟨(some 9), .bin .lss (.tmp 8) (.tmp 7), none⟩])
        (.seq
         (.cond (.tmp 9)
          .skip
          (.exit 0))
         (.seq
          (.block 1
           (.seq
            (.ops [
              ⟨(some 10), .move (.tmp 8), none⟩,
              ⟨(some 5), .move (.tmp 10), none⟩])
            (.seq
             (.draw 0 [
               ⟨0, ⟨(some 11), .load 4 true (.tmp 3), none⟩, [], 0⟩,
               ⟨1, ⟨(some 12), .move (.tmp 0), none⟩, [], 0⟩,
               ⟨2, ⟨(some 13), .move (.tmp 5), none⟩, [], 0⟩,
               ⟨3, ⟨(some 14), .idxSl (.tmp 12) (.tmp 13) 4, none⟩, [1, 2], 0⟩,
               ⟨4, ⟨(some 15), .load 4 true (.tmp 14), none⟩, [3, 1, 2], 0⟩,
               ⟨5, ⟨(some 16), .eq false true [.int, .int, .int, .int] (.tmp 11) (.tmp 15), none⟩, [0, 4, 3, 1, 2], 0⟩])
             (.cond (.tmp 16)
              (.seq
               (.ops [
                 ⟨(some 17), .move (.tmp 5), none⟩,
                 ⟨(some 4), .move (.tmp 17), none⟩])
               .ret)
              .skip))))
          (.ops [
            ⟨(some 18), .bin .add (.tmp 8) (.const (.int .i64 1)), none⟩,
            ⟨(some 8), .move (.tmp 18), none⟩])))))))
    (.seq
     (.ops [
       ⟨(some 4), .move (.const (.int .i64 (-1))), none⟩])
     .ret)))⟩
theorem t47_ok : goodFn Try.prog 47 = true ∧ cfn Try.prog 47 = t47 := ⟨by kernel_rfl, by kernel_rfl⟩

/-- matchguard/matchguardcase.bitsOf -/
def t49 : NFn := ⟨21, [(.tmp 4)],
  (.seq
   (.ops [
     ⟨(some 2), .box (.tmp 0), none⟩,
     ⟨(some 4), .move (.const (.int .i64 0)), none⟩])
   (.seq
    (.seq
     (.ops [
       ⟨(some 7), .off (.tmp 2) 0, none⟩,
       ⟨(some 8), .load 1 false (.tmp 7), none⟩,
       ⟨(some 9), .lenSl (.tmp 8), none⟩,
       ⟨(some 10), .move (.const (.int .i64 0)), none⟩])
     (.block 0
      (.loop
       (.seq
        (.ops [
          ⟨(some 11), .bin .lss (.tmp 10) (.tmp 9), none⟩])
        (.seq
         (.cond (.tmp 11)
          .skip
          (.exit 0))
         (.seq
          (.block 1
           (.seq
            (.ops [
              ⟨(some 12), .idxSl (.tmp 8) (.tmp 10) 3, none⟩,
              ⟨(some 13), .load 3 true (.tmp 12), none⟩,
              ⟨(some 6), .alloc [(.int .i64 0), (.str ⟨#[]⟩), (.int .i64 0)], none⟩,
              ⟨none, .store 3 (.tmp 6) (.tmp 13), none⟩])
            (.seq
             (.ops [
               ⟨(some 14), .off (.tmp 6) 0, none⟩,
               ⟨(some 15), .load 1 false (.tmp 14), none⟩,
               ⟨(some 16), .move (.tmp 1), none⟩,
               ⟨(some 17), .bin .eql (.tmp 15) (.tmp 16), none⟩])
             (.cond (.tmp 17)
              (.seq
               (.ops [
                 ⟨(some 18), .off (.tmp 6) 2, none⟩,
                 ⟨(some 19), .load 1 false (.tmp 18), none⟩,
                 ⟨(some 4), .move (.tmp 19), none⟩])
               .ret)
              .skip))))
          (.ops [
            ⟨(some 20), .bin .add (.tmp 10) (.const (.int .i64 1)), none⟩,
            ⟨(some 10), .move (.tmp 20), none⟩])))))))
    (.seq
     (.ops [
       ⟨(some 4), .move (.const (.int .i64 0)), none⟩])
     .ret)))⟩
theorem t49_ok : goodFn Try.prog 49 = true ∧ cfn Try.prog 49 = t49 := ⟨by kernel_rfl, by kernel_rfl⟩

/-- matchguard/matchguardcase.mask -/
def t50 : NFn := ⟨17, [(.cell 4 2 true)],
  (.seq
   (.ops [
     ⟨(some 4), .alloc [(.int .u64 0), (.int .u64 0)], none⟩])
   (.seq
    (.ops [
      ⟨(some 5), .move (.tmp 0), none⟩,
      ⟨(some 6), .conv .u64 (.tmp 5), none⟩,
      ⟨(some 7), .bin .shl (.const (.int .u64 1)) (.tmp 6), none⟩,
      ⟨(some 8), .bin .sub (.tmp 7) (.const (.int .u64 1)), none⟩,
      ⟨(some 9), .move (.tmp 0), none⟩,
      ⟨(some 10), .move (.tmp 1), none⟩,
      ⟨(some 11), .bin .sub (.tmp 9) (.tmp 10), none⟩,
      ⟨(some 12), .conv .u64 (.tmp 11), none⟩,
      ⟨(some 13), .bin .shl (.const (.int .u64 1)) (.tmp 12), none⟩,
      ⟨(some 14), .bin .sub (.tmp 13) (.const (.int .u64 1)), none⟩,
      ⟨(some 15), .bin .sub (.tmp 8) (.tmp 14), none⟩,
      ⟨(some 16), .build [(.int .u64 0), (.int .u64 0)] [(1, 1, (.tmp 15))], none⟩,
      ⟨none, .store 2 (.tmp 4) (.tmp 16), none⟩])
    .ret))⟩
theorem t50_ok : goodFn Try.prog 50 = true ∧ cfn Try.prog 50 = t50 := ⟨by kernel_rfl, by kernel_rfl⟩

def tab : List (Nat × NFn) := [(3, t3), (7, t7), (8, t8), (9, t9), (10, t10), (11, t11), (12, t12), (13, t13), (14, t14), (15, t15), (19, t19), (20, t20), (22, t22), (27, t27), (28, t28), (29, t29), (30, t30), (31, t31), (33, t33), (34, t34), (35, t35), (42, t42), (43, t43), (44, t44), (45, t45), (46, t46), (47, t47), (49, t49), (50, t50)]
theorem tab_ok : ∀ p ∈ tab, goodFn Try.prog p.1 = true ∧ cfn Try.prog p.1 = p.2 := by
  intro p hp
  simp only [tab, List.mem_cons, List.not_mem_nil, or_false] at hp
  rcases hp with rfl | rfl | rfl | rfl | rfl | rfl | rfl | rfl | rfl | rfl | rfl | rfl | rfl | rfl | rfl | rfl | rfl | rfl | rfl | rfl | rfl | rfl | rfl | rfl | rfl | rfl | rfl | rfl | rfl
  · exact t3_ok
  · exact t7_ok
  · exact t8_ok
  · exact t9_ok
  · exact t10_ok
  · exact t11_ok
  · exact t12_ok
  · exact t13_ok
  · exact t14_ok
  · exact t15_ok
  · exact t19_ok
  · exact t20_ok
  · exact t22_ok
  · exact t27_ok
  · exact t28_ok
  · exact t29_ok
  · exact t30_ok
  · exact t31_ok
  · exact t33_ok
  · exact t34_ok
  · exact t35_ok
  · exact t42_ok
  · exact t43_ok
  · exact t44_ok
  · exact t45_ok
  · exact t46_ok
  · exact t47_ok
  · exact t49_ok
  · exact t50_ok
end Go.Proofs
