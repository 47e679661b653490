import Derived.Test.YtiiopgancdgioaaNsQ
import Derived.Test.YtiiopgancdgioaaProg
import Derived.KernelRfl
set_option maxRecDepth 100000
namespace Go.Proofs
open Go.Ns
/-- A long list of one value over and over. -/
def fill (n : Nat) (x : NV) : List NV := List.replicate n x

/-- matchguard/matchguardlaw12.TrieCalls -/
def t4 : NFn := ⟨131, [(.tmp 4)],
 (.seq
 (.ops [
 ⟨(some 4), .move (.const (.bool false)), none⟩])
 (.seq
 (.seq
 (.ops [
 ⟨(some 17), .move (.tmp 0), none⟩,
 ⟨(some 18), .move (.tmp 0), none⟩,
 ⟨(some 19), .bin .and (.tmp 18) (.const (.int .i64 127)), none⟩,
 ⟨(some 20), .bin .add (.const (.int .i64 1)) (.tmp 19), none⟩,
 ⟨(some 21), .bslice 3 [(.int .i64 0), (.int .i64 0), (.int .i64 0)] [(0, 1, (.tmp 17)), (1, 1, (.tmp 20)), (2, 1, (.const (.int .i64 8)))], none⟩,
 ⟨(some 22), .lenSl (.tmp 21), none⟩,
 ⟨(some 23), .move (.const (.int .i64 0)), none⟩])
 (.block 0
 (.loop
 (.seq
 (.ops [
 ⟨(some 24), .bin .lss (.tmp 23) (.tmp 22), none⟩])
 (.seq
 (.cond (.tmp 24)
 .skip
 (.exit 0))
 (.seq
 (.block 1
 (.seq
 (.ops [
 ⟨(some 25), .idxSl (.tmp 21) (.tmp 23) 1, none⟩,
 ⟨(some 26), .load 1 false (.tmp 25), none⟩,
 ⟨(some 6), .move (.tmp 26), none⟩])
 (.seq
 (.ops [
 ⟨(some 27), .move (.tmp 6), none⟩,
 ⟨(some 28), .call 7 [(.tmp 27)], none⟩,
 ⟨(some 29), .move (.tmp 6), none⟩,
 ⟨(some 30), .call 8 [(.tmp 29)], none⟩,
 ⟨(some 7), .move (.tmp 28), none⟩,
 ⟨(some 8), .move (.tmp 30), none⟩])
 (.seq
 (.seq
 (.ops [
 ⟨(some 31), .move (.tmp 1), none⟩,
 ⟨(some 32), .move (.tmp 1), none⟩,
 ⟨(some 33), .lenSl (.tmp 32), none⟩,
 ⟨(some 34), .minmax false [(.tmp 33), (.const (.int .i64 24))], none⟩,
 ⟨(some 35), .slice (.tmp 31) none (some (.tmp 34)) none 6, none⟩,
 ⟨(some 36), .lenSl (.tmp 35), none⟩,
 ⟨(some 37), .move (.const (.int .i64 0)), none⟩])
 (.block 2
 (.loop
 (.seq
 (.ops [
 ⟨(some 38), .bin .lss (.tmp 37) (.tmp 36), none⟩])
 (.seq
 (.cond (.tmp 38)
 .skip
 (.exit 2))
 (.seq
 (.block 3
 (.seq
 (.ops [
 ⟨(some 39), .idxSl (.tmp 35) (.tmp 37) 6, none⟩,
 ⟨(some 40), .load 6 true (.tmp 39), none⟩,
 ⟨(some 10), .alloc [(.int .i64 0), (.int .u8 0), (.int .u64 0), (.int .u64 0), (.int .i64 0), (.int .i64 0)], none⟩,
 ⟨none, .store 6 (.tmp 10) (.tmp 40), none⟩])
 (.seq
 (.draw 1 [
 ⟨0, ⟨(some 42), .load 6 true (.tmp 10), none⟩, [], 0⟩,
 ⟨1, ⟨(some 43), .move (.tmp 8), none⟩, [], 0⟩,
 ⟨2, ⟨(some 44), .nilCheck (.tmp 43), none⟩, [1], 0⟩,
 ⟨3, ⟨(some 45), .off (.tmp 44) 0, none⟩, [2, 1], 0⟩,
 ⟨4, ⟨(some 46), .load 1 false (.tmp 45), none⟩, [3, 2, 1], 0⟩,
 ⟨5, ⟨(some 47), .call 9 [(.tmp 42), (.tmp 46)], none⟩, [0, 4, 3, 2, 1], 0⟩,
 ⟨6, ⟨(some 41), .move (.tmp 47), none⟩, [5, 0, 4, 3, 2, 1], 0⟩,
 ⟨7, ⟨(some 48), .extract (.tmp 41) 0, none⟩, [6, 5, 0, 4, 3, 2, 1], 0⟩,
 ⟨8, ⟨(some 49), .extract (.tmp 41) 1, none⟩, [6, 5, 0, 4, 3, 2, 1], 0⟩,
 ⟨9, ⟨(some 11), .alloc [(.int .u64 0), (.int .u64 0)], none⟩, [], 0⟩,
 ⟨10, ⟨none, .store 2 (.tmp 11) (.tmp 48), none⟩, [9, 7, 6, 5, 0, 4, 3, 2, 1], 1⟩,
 ⟨11, ⟨(some 12), .move (.tmp 49), none⟩, [8, 6, 5, 0, 4, 3, 2, 1, 10, 9, 7], 1⟩])
 (.seq
 (.seq
 (.ops [
 ⟨(some 50), .off (.tmp 10) 0, none⟩,
 ⟨(some 51), .load 1 false (.tmp 50), none⟩,
 ⟨(some 52), .bin .and (.tmp 51) (.const (.int .i64 7)), none⟩])
 (.block 4
 (.seq
 (.seq
 (.ops [
 ⟨(some 76), .bin .eql (.tmp 52) (.const (.int .i64 0)), none⟩,
 ⟨(some 75), .move (.tmp 76), none⟩])
 (.cond (.tmp 75)
 .skip
 (.seq
 (.ops [
 ⟨(some 77), .bin .eql (.tmp 52) (.const (.int .i64 1)), none⟩,
 ⟨(some 75), .move (.tmp 77), none⟩])
 (.cond (.tmp 75)
 .skip
 (.seq
 (.ops [
 ⟨(some 78), .bin .eql (.tmp 52) (.const (.int .i64 2)), none⟩,
 ⟨(some 75), .move (.tmp 78), none⟩])
 (.cond (.tmp 75)
 .skip
 (.ops [
 ⟨(some 79), .bin .eql (.tmp 52) (.const (.int .i64 3)), none⟩,
 ⟨(some 75), .move (.tmp 79), none⟩])))))))
 (.cond (.tmp 75)
 (.seq
 (.draw 0 [
 ⟨0, ⟨(some 80), .move (.tmp 7), none⟩, [], 0⟩,
 ⟨1, ⟨(some 81), .load 2 true (.tmp 11), none⟩, [], 0⟩,
 ⟨2, ⟨(some 82), .move (.tmp 12), none⟩, [], 0⟩,
 ⟨3, ⟨(some 83), .off (.tmp 10) 5, none⟩, [], 0⟩,
 ⟨4, ⟨(some 84), .load 1 false (.tmp 83), none⟩, [3], 0⟩,
 ⟨5, ⟨(some 85), .call 10 [(.tmp 80), (.tmp 81), (.tmp 82), (.tmp 84)], none⟩, [0, 1, 2, 4, 3], 0⟩,
 ⟨6, ⟨(some 86), .move (.tmp 8), none⟩, [], 0⟩,
 ⟨7, ⟨(some 87), .load 2 true (.tmp 11), none⟩, [], 0⟩,
 ⟨8, ⟨(some 88), .move (.tmp 12), none⟩, [], 0⟩,
 ⟨9, ⟨(some 89), .off (.tmp 10) 5, none⟩, [], 0⟩,
 ⟨10, ⟨(some 90), .load 1 false (.tmp 89), none⟩, [9], 0⟩,
 ⟨11, ⟨(some 91), .call 11 [(.tmp 86), (.tmp 87), (.tmp 88), (.tmp 90)], none⟩, [6, 7, 8, 10, 9, 5, 0, 1, 2, 4, 3], 0⟩,
 ⟨12, ⟨(some 92), .eq true false [.bool] (.tmp 85) (.tmp 91), none⟩, [5, 0, 1, 2, 4, 3, 11, 6, 7, 8, 10, 9], 0⟩])
 (.cond (.tmp 92)
 (.seq
 (.ops [
 ⟨(some 4), .move (.const (.bool false)), none⟩])
 .ret)
 .skip))
 (.seq
 (.seq
 (.ops [
 ⟨(some 94), .bin .eql (.tmp 52) (.const (.int .i64 4)), none⟩,
 ⟨(some 93), .move (.tmp 94), none⟩])
 (.cond (.tmp 93)
 .skip
 (.ops [
 ⟨(some 95), .bin .eql (.tmp 52) (.const (.int .i64 5)), none⟩,
 ⟨(some 93), .move (.tmp 95), none⟩])))
 (.cond (.tmp 93)
 (.seq
 (.draw 0 [
 ⟨0, ⟨(some 96), .move (.tmp 7), none⟩, [], 0⟩,
 ⟨1, ⟨(some 97), .load 2 true (.tmp 11), none⟩, [], 0⟩,
 ⟨2, ⟨(some 98), .move (.tmp 12), none⟩, [], 0⟩,
 ⟨3, ⟨(some 99), .call 17 [(.tmp 96), (.tmp 97), (.tmp 98)], none⟩, [0, 1, 2], 0⟩,
 ⟨4, ⟨(some 100), .move (.tmp 8), none⟩, [], 0⟩,
 ⟨5, ⟨(some 101), .load 2 true (.tmp 11), none⟩, [], 0⟩,
 ⟨6, ⟨(some 102), .move (.tmp 12), none⟩, [], 0⟩,
 ⟨7, ⟨(some 103), .call 18 [(.tmp 100), (.tmp 101), (.tmp 102)], none⟩, [4, 5, 6, 3, 0, 1, 2], 0⟩,
 ⟨8, ⟨(some 104), .eq true false [.bool] (.tmp 99) (.tmp 103), none⟩, [3, 0, 1, 2, 7, 4, 5, 6], 0⟩])
 (.cond (.tmp 104)
 (.seq
 (.ops [
 ⟨(some 4), .move (.const (.bool false)), none⟩])
 .ret)
 .skip))
 (.seq
 (.ops [
 ⟨(some 54), .move (.tmp 7), none⟩,
 ⟨(some 55), .load 2 true (.tmp 11), none⟩,
 ⟨(some 56), .move (.tmp 12), none⟩,
 ⟨(some 57), .call 19 [(.tmp 54), (.tmp 55), (.tmp 56)], none⟩,
 ⟨(some 53), .move (.tmp 57), none⟩,
 ⟨(some 58), .extract (.tmp 53) 0, none⟩,
 ⟨(some 59), .extract (.tmp 53) 1, none⟩,
 ⟨(some 13), .move (.tmp 58), none⟩,
 ⟨(some 14), .move (.tmp 59), none⟩])
 (.seq
 (.ops [
 ⟨(some 61), .move (.tmp 8), none⟩,
 ⟨(some 62), .load 2 true (.tmp 11), none⟩,
 ⟨(some 63), .move (.tmp 12), none⟩,
 ⟨(some 64), .call 20 [(.tmp 61), (.tmp 62), (.tmp 63)], none⟩,
 ⟨(some 60), .move (.tmp 64), none⟩,
 ⟨(some 65), .extract (.tmp 60) 0, none⟩,
 ⟨(some 66), .extract (.tmp 60) 1, none⟩,
 ⟨(some 15), .move (.tmp 65), none⟩,
 ⟨(some 16), .move (.tmp 66), none⟩])
 (.seq
 (.ops [
 ⟨(some 67), .move (.tmp 13), none⟩,
 ⟨(some 68), .move (.tmp 15), none⟩,
 ⟨(some 69), .bin .neq (.tmp 67) (.tmp 68), none⟩,
 ⟨(some 70), .move (.tmp 69), none⟩,
 ⟨(some 71), .move (.tmp 14), (some (70, false))⟩,
 ⟨(some 72), .move (.tmp 16), (some (70, false))⟩,
 ⟨(some 73), .eq true false [.bool] (.tmp 71) (.tmp 72), (some (70, false))⟩,
 ⟨(some 74), .pick (.tmp 70) (.const (.bool true)) (.tmp 73), none⟩])
 (.cond (.tmp 74)
 (.seq
 (.ops [
 ⟨(some 4), .move (.const (.bool false)), none⟩])
 .ret)
 .skip))))))))))
 (.seq
 (.draw 0 [
 ⟨0, ⟨(some 105), .move (.tmp 7), none⟩, [], 0⟩,
 ⟨1, ⟨(some 106), .call 21 [(.tmp 105)], none⟩, [0], 0⟩,
 ⟨2, ⟨(some 107), .move (.tmp 8), none⟩, [], 0⟩,
 ⟨3, ⟨(some 108), .nilCheck (.tmp 107), none⟩, [2], 0⟩,
 ⟨4, ⟨(some 109), .off (.tmp 108) 1, none⟩, [3, 2], 0⟩,
 ⟨5, ⟨(some 110), .load 1 false (.tmp 109), none⟩, [4, 3, 2], 0⟩,
 ⟨6, ⟨(some 111), .lenSl (.tmp 110), none⟩, [5, 4, 3, 2], 0⟩,
 ⟨7, ⟨(some 112), .bin .neq (.tmp 106) (.tmp 111), none⟩, [1, 0, 6, 5, 4, 3, 2], 0⟩,
 ⟨8, ⟨(some 113), .move (.tmp 112), none⟩, [7, 1, 0, 6, 5, 4, 3, 2], 0⟩,
 ⟨9, ⟨(some 114), .move (.tmp 7), (some (113, false))⟩, [8, 7, 1, 0, 6, 5, 4, 3, 2], 0⟩,
 ⟨10, ⟨(some 115), .call 23 [(.tmp 114)], (some (113, false))⟩, [9, 8, 7, 1, 0, 6, 5, 4, 3, 2], 0⟩,
 ⟨11, ⟨(some 116), .move (.tmp 8), (some (113, false))⟩, [8, 7, 1, 0, 6, 5, 4, 3, 2], 0⟩,
 ⟨12, ⟨(some 117), .nilCheck (.tmp 116), (some (113, false))⟩, [11, 8, 7, 1, 0, 6, 5, 4, 3, 2], 0⟩,
 ⟨13, ⟨(some 118), .off (.tmp 117) 1, (some (113, false))⟩, [12, 11, 8, 7, 1, 0, 6, 5, 4, 3, 2], 0⟩,
 ⟨14, ⟨(some 119), .load 1 false (.tmp 118), (some (113, false))⟩, [13, 12, 11, 8, 7, 1, 0, 6, 5, 4, 3, 2], 0⟩,
 ⟨15, ⟨(some 120), .call 22 [(.tmp 115), (.tmp 119)], (some (113, false))⟩, [10, 9, 8, 7, 1, 0, 6, 5, 4, 3, 2, 14, 13, 12, 11], 0⟩,
 ⟨16, ⟨(some 121), .un .not (.tmp 120), (some (113, false))⟩, [15, 10, 9, 8, 7, 1, 0, 6, 5, 4, 3, 2, 14, 13, 12, 11], 0⟩,
 ⟨17, ⟨(some 122), .pick (.tmp 113) (.const (.bool true)) (.tmp 121), none⟩, [8, 7, 1, 0, 6, 5, 4, 3, 2, 16, 15, 10, 9, 14, 13, 12, 11], 0⟩])
 (.cond (.tmp 122)
 (.seq
 (.ops [
 ⟨(some 4), .move (.const (.bool false)), none⟩])
 .ret)
 .skip))))))
 (.ops [
 ⟨(some 123), .bin .add (.tmp 37) (.const (.int .i64 1)), none⟩,
 ⟨(some 37), .move (.tmp 123), none⟩])))))))
 (.seq
 (.ops [
 ⟨(some 124), .move (.tmp 7), none⟩,
 ⟨(some 125), .call 24 [(.tmp 124)], none⟩,
 ⟨(some 126), .move (.tmp 8), none⟩,
 ⟨(some 127), .call 25 [(.tmp 126)], none⟩,
 ⟨(some 128), .bin .neq (.tmp 125) (.tmp 127), none⟩])
 (.cond (.tmp 128)
 (.seq
 (.ops [
 ⟨(some 4), .move (.const (.bool false)), none⟩])
 .ret)
 .skip))))))
 (.ops [
 ⟨(some 129), .bin .add (.tmp 23) (.const (.int .i64 1)), none⟩,
 ⟨(some 23), .move (.tmp 129), none⟩])))))))
 (.seq
 (.ops [
 ⟨(some 130), .call 16 [], none⟩,
 ⟨(some 4), .move (.tmp 130), none⟩])
 .ret)))⟩
theorem t4_ok : goodFn Try.prog 4 = true ∧ cfn Try.prog 4 = t4 := ⟨by kernel_rfl, by kernel_rfl⟩

/-- matchguard/trie.New -/
def t7 : NFn := ⟨8, [(.tmp 2)],
 (.seq
 (.ops [
 ⟨(some 2), .move (.const (.ptr none)), none⟩])
 (.seq
 (.ops [
 ⟨(some 3), .move (.tmp 0), none⟩,
 ⟨(some 4), .minmax true [(.const (.int .i64 1)), (.tmp 3)], none⟩,
 ⟨(some 5), .minmax false [(.tmp 4), (.const (.int .i64 128))], none⟩,
 ⟨(some 6), .build [(.int .i64 0), (.ptr none)] [(0, 1, (.tmp 5))], none⟩,
 ⟨(some 7), .box (.tmp 6), none⟩,
 ⟨(some 2), .move (.tmp 7), none⟩])
 .ret))⟩
theorem t7_ok : goodFn Try.prog 7 = true ∧ cfn Try.prog 7 = t7 := ⟨by kernel_rfl, by kernel_rfl⟩

/-- matchguard/matchguardref12.New -/
def t8 : NFn := ⟨8, [(.tmp 2)],
 (.seq
 (.ops [
 ⟨(some 2), .move (.const (.ptr none)), none⟩])
 (.seq
 (.ops [
 ⟨(some 3), .move (.tmp 0), none⟩,
 ⟨(some 4), .minmax false [(.tmp 3), (.const (.int .i64 128))], none⟩,
 ⟨(some 5), .minmax true [(.const (.int .i64 1)), (.tmp 4)], none⟩,
 ⟨(some 6), .build [(.int .i64 0), (.slice none 0 (.fix 0))] [(0, 1, (.tmp 5))], none⟩,
 ⟨(some 7), .box (.tmp 6), none⟩,
 ⟨(some 2), .move (.tmp 7), none⟩])
 .ret))⟩
theorem t8_ok : goodFn Try.prog 8 = true ∧ cfn Try.prog 8 = t8 := ⟨by kernel_rfl, by kernel_rfl⟩

/-- (matchguard/matchguardlaw12.Op).prefix -/
def t9 : NFn := ⟨40, [(.cell 4 2 true), (.tmp 5)],
 (.seq
 (.ops [
 ⟨(some 2), .box (.tmp 0), none⟩,
 ⟨(some 4), .alloc [(.int .u64 0), (.int .u64 0)], none⟩,
 ⟨(some 5), .move (.const (.int .i64 0)), none⟩])
 (.seq
 (.seq
 (.ops [
 ⟨(some 7), .off (.tmp 2) 1, none⟩,
 ⟨(some 8), .load 1 false (.tmp 7), none⟩,
 ⟨(some 9), .bin .rem (.tmp 8) (.const (.int .u8 4)), none⟩,
 ⟨(some 10), .bin .eql (.tmp 9) (.const (.int .u8 0)), none⟩])
 (.cond (.tmp 10)
 (.seq
 (.draw 0 [
 ⟨0, ⟨(some 11), .off (.tmp 2) 2, none⟩, [], 0⟩,
 ⟨1, ⟨(some 12), .load 2 true (.tmp 11), none⟩, [0], 0⟩,
 ⟨2, ⟨(some 13), .off (.tmp 2) 4, none⟩, [], 0⟩,
 ⟨3, ⟨(some 14), .load 1 false (.tmp 13), none⟩, [2], 0⟩,
 ⟨4, ⟨none, .store 2 (.tmp 4) (.tmp 12), none⟩, [1, 0], 0⟩,
 ⟨5, ⟨(some 5), .move (.tmp 14), none⟩, [3, 2, 4, 1, 0], 0⟩])
 .ret)
 .skip))
 (.seq
 (.ops [
 ⟨(some 15), .off (.tmp 2) 4, none⟩,
 ⟨(some 16), .load 1 false (.tmp 15), none⟩,
 ⟨(some 17), .move (.tmp 1), none⟩,
 ⟨(some 18), .minmax false [(.tmp 17), (.const (.int .i64 12))], none⟩,
 ⟨(some 19), .bin .add (.tmp 18) (.const (.int .i64 1)), none⟩,
 ⟨(some 20), .call 26 [(.tmp 16), (.tmp 19)], none⟩,
 ⟨(some 6), .move (.tmp 20), none⟩])
 (.seq
 (.draw 0 [
 ⟨0, ⟨(some 21), .move (.tmp 1), none⟩, [], 0⟩,
 ⟨1, ⟨(some 22), .off (.tmp 2) 1, none⟩, [], 0⟩,
 ⟨2, ⟨(some 23), .load 1 false (.tmp 22), none⟩, [1], 0⟩,
 ⟨3, ⟨(some 24), .bin .quo (.tmp 23) (.const (.int .u8 4)), none⟩, [2, 1], 0⟩,
 ⟨4, ⟨(some 25), .bin .rem (.tmp 24) (.const (.int .u8 8)), none⟩, [3, 2, 1], 0⟩,
 ⟨5, ⟨(some 26), .conv .i64 (.tmp 25), none⟩, [4, 3, 2, 1], 0⟩,
 ⟨6, ⟨(some 27), .call 28 [(.tmp 21), (.tmp 26)], none⟩, [0, 5, 4, 3, 2, 1], 0⟩,
 ⟨7, ⟨(some 28), .move (.tmp 1), none⟩, [], 0⟩,
 ⟨8, ⟨(some 29), .off (.tmp 2) 1, none⟩, [], 0⟩,
 ⟨9, ⟨(some 30), .load 1 false (.tmp 29), none⟩, [8], 0⟩,
 ⟨10, ⟨(some 31), .bin .quo (.tmp 30) (.const (.int .u8 32)), none⟩, [9, 8], 0⟩,
 ⟨11, ⟨(some 32), .conv .i64 (.tmp 31), none⟩, [10, 9, 8], 0⟩,
 ⟨12, ⟨(some 33), .call 28 [(.tmp 28), (.tmp 32)], none⟩, [7, 11, 10, 9, 8, 6, 0, 5, 4, 3, 2, 1], 0⟩,
 ⟨13, ⟨(some 34), .call 13 [(.tmp 27), (.tmp 33)], none⟩, [6, 0, 5, 4, 3, 2, 1, 12, 7, 11, 10, 9, 8], 0⟩,
 ⟨14, ⟨(some 35), .move (.tmp 1), none⟩, [], 0⟩,
 ⟨15, ⟨(some 36), .move (.tmp 6), none⟩, [], 0⟩,
 ⟨16, ⟨(some 37), .call 28 [(.tmp 35), (.tmp 36)], none⟩, [14, 15, 13, 6, 0, 5, 4, 3, 2, 1, 12, 7, 11, 10, 9, 8], 0⟩,
 ⟨17, ⟨(some 38), .call 27 [(.tmp 34), (.tmp 37)], none⟩, [13, 6, 0, 5, 4, 3, 2, 1, 12, 7, 11, 10, 9, 8, 16, 14, 15], 0⟩,
 ⟨18, ⟨(some 39), .move (.tmp 6), none⟩, [], 0⟩,
 ⟨19, ⟨none, .store 2 (.tmp 4) (.tmp 38), none⟩, [17, 13, 6, 0, 5, 4, 3, 2, 1, 12, 7, 11, 10, 9, 8, 16, 14, 15], 0⟩,
 ⟨20, ⟨(some 5), .move (.tmp 39), none⟩, [18, 19, 17, 13, 6, 0, 5, 4, 3, 2, 1, 12, 7, 11, 10, 9, 8, 16, 14, 15], 0⟩])
 .ret))))⟩
theorem t9_ok : goodFn Try.prog 9 = true ∧ cfn Try.prog 9 = t9 := ⟨by kernel_rfl, by kernel_rfl⟩

/-- (*matchguard/trie.Trie).Put -/
def t10 : NFn := ⟨75, [(.tmp 8)],
 (.seq
 (.ops [
 ⟨(some 5), .box (.tmp 1), none⟩,
 ⟨(some 8), .move (.const (.bool false)), none⟩])
 (.seq
 (.seq
 (.ops [
 ⟨(some 12), .move (.tmp 0), none⟩,
 ⟨(some 13), .load 2 true (.tmp 5), none⟩,
 ⟨(some 14), .move (.tmp 2), none⟩,
 ⟨(some 15), .call 29 [(.tmp 12), (.tmp 13), (.tmp 14)], none⟩,
 ⟨(some 16), .un .not (.tmp 15), none⟩])
 (.cond (.tmp 16)
 (.seq
 (.ops [
 ⟨(some 8), .move (.const (.bool false)), none⟩])
 .ret)
 .skip))
 (.seq
 (.seq
 (.ops [
 ⟨(some 17), .move (.tmp 0), none⟩,
 ⟨(some 18), .load 2 true (.tmp 5), none⟩,
 ⟨(some 19), .move (.tmp 2), none⟩,
 ⟨(some 20), .call 30 [(.tmp 17), (.tmp 18), (.tmp 19)], none⟩,
 ⟨(some 9), .move (.tmp 20), none⟩])
 (.seq
 (.ops [
 ⟨(some 21), .move (.tmp 9), none⟩,
 ⟨(some 22), .eq true false [.ptr] (.tmp 21) (.const (.ptr none)), none⟩,
 ⟨(some 23), .move (.tmp 22), none⟩,
 ⟨(some 24), .move (.tmp 9), (some (23, true))⟩,
 ⟨(some 25), .nilCheck (.tmp 24), (some (23, true))⟩,
 ⟨(some 26), .off (.tmp 25) 2, (some (23, true))⟩,
 ⟨(some 27), .load 1 false (.tmp 26), (some (23, true))⟩,
 ⟨(some 28), .pick (.tmp 23) (.tmp 27) (.const (.bool false)), none⟩])
 (.cond (.tmp 28)
 (.seq
 (.ops [
 ⟨(some 8), .move (.const (.bool false)), none⟩])
 .ret)
 .skip)))
 (.seq
 (.seq
 (.ops [
 ⟨(some 29), .move (.tmp 0), none⟩,
 ⟨(some 30), .nilCheck (.tmp 29), none⟩,
 ⟨(some 31), .off (.tmp 30) 1, none⟩,
 ⟨(some 32), .load 1 false (.tmp 31), none⟩,
 ⟨(some 33), .eq false false [.ptr] (.tmp 32) (.const (.ptr none)), none⟩])
 (.cond (.tmp 33)
 (.ops [
 ⟨(some 34), .move (.tmp 0), none⟩,
 ⟨(some 35), .build [(.ptr none), (.ptr none), (.bool false), (.int .i64 0)] [], none⟩,
 ⟨(some 36), .box (.tmp 35), none⟩,
 ⟨(some 37), .nilCheck (.tmp 34), none⟩,
 ⟨(some 38), .off (.tmp 37) 1, none⟩,
 ⟨none, .store 1 (.tmp 38) (.tmp 36), none⟩])
 .skip))
 (.seq
 (.ops [
 ⟨(some 39), .move (.tmp 0), none⟩,
 ⟨(some 40), .nilCheck (.tmp 39), none⟩,
 ⟨(some 41), .off (.tmp 40) 1, none⟩,
 ⟨(some 42), .load 1 false (.tmp 41), none⟩,
 ⟨(some 10), .alloc [(.ptr none)], none⟩,
 ⟨none, .store 1 (.tmp 10) (.tmp 42), none⟩])
 (.seq
 (.seq
 (.ops [
 ⟨(some 43), .move (.tmp 0), none⟩,
 ⟨(some 44), .load 2 true (.tmp 5), none⟩,
 ⟨(some 45), .move (.tmp 2), none⟩,
 ⟨(some 46), .call 31 [(.tmp 43), (.tmp 44), (.tmp 45)], none⟩])
 (.block 0
 (.rangeF (.tmp 46) 47
 (.ops [
 ⟨(some 11), .move (.tmp 47), none⟩])
 (.block 1
 (.seq
 (.seq
 (.ops [
 ⟨(some 48), .load 1 false (.tmp 10), none⟩,
 ⟨(some 49), .move (.tmp 11), none⟩,
 ⟨(some 50), .nilCheck (.tmp 48), none⟩,
 ⟨(some 51), .off (.tmp 50) 0, none⟩,
 ⟨(some 52), .idxArr (.tmp 51) (.tmp 49) 2 1, none⟩,
 ⟨(some 53), .load 1 false (.tmp 52), none⟩,
 ⟨(some 54), .eq false false [.ptr] (.tmp 53) (.const (.ptr none)), none⟩])
 (.cond (.tmp 54)
 (.ops [
 ⟨(some 55), .load 1 false (.tmp 10), none⟩,
 ⟨(some 56), .move (.tmp 11), none⟩,
 ⟨(some 57), .build [(.ptr none), (.ptr none), (.bool false), (.int .i64 0)] [], none⟩,
 ⟨(some 58), .box (.tmp 57), none⟩,
 ⟨(some 59), .nilCheck (.tmp 55), none⟩,
 ⟨(some 60), .off (.tmp 59) 0, none⟩,
 ⟨(some 61), .idxArr (.tmp 60) (.tmp 56) 2 1, none⟩,
 ⟨none, .store 1 (.tmp 61) (.tmp 58), none⟩])
 .skip))
 (.ops [
 ⟨(some 62), .load 1 false (.tmp 10), none⟩,
 ⟨(some 63), .move (.tmp 11), none⟩,
 ⟨(some 64), .nilCheck (.tmp 62), none⟩,
 ⟨(some 65), .off (.tmp 64) 0, none⟩,
 ⟨(some 66), .idxArr (.tmp 65) (.tmp 63) 2 1, none⟩,
 ⟨(some 67), .load 1 false (.tmp 66), none⟩,
 ⟨none, .store 1 (.tmp 10) (.tmp 67), none⟩]))))))
 (.seq
 (.draw 0 [
 ⟨0, ⟨(some 68), .load 1 false (.tmp 10), none⟩, [], 0⟩,
 ⟨1, ⟨(some 69), .load 1 false (.tmp 10), none⟩, [], 0⟩,
 ⟨2, ⟨(some 70), .move (.tmp 3), none⟩, [], 0⟩,
 ⟨3, ⟨(some 71), .nilCheck (.tmp 68), none⟩, [0], 0⟩,
 ⟨4, ⟨(some 72), .off (.tmp 71) 2, none⟩, [3, 0], 0⟩,
 ⟨5, ⟨none, .store 1 (.tmp 72) (.const (.bool true)), none⟩, [4, 3, 0], 0⟩,
 ⟨6, ⟨(some 73), .nilCheck (.tmp 69), none⟩, [1, 0, 2, 3, 4, 5], 0⟩,
 ⟨7, ⟨(some 74), .off (.tmp 73) 3, none⟩, [6, 1, 0, 2, 3, 4, 5], 0⟩,
 ⟨8, ⟨none, .store 1 (.tmp 74) (.tmp 70), none⟩, [7, 6, 1, 0, 2, 3, 4, 5], 0⟩])
 (.seq
 (.ops [
 ⟨(some 8), .move (.const (.bool true)), none⟩])
 .ret))))))))⟩
theorem t10_ok : goodFn Try.prog 10 = true ∧ cfn Try.prog 10 = t10 := ⟨by kernel_rfl, by kernel_rfl⟩

/-- (*matchguard/matchguardref12.Trie).Put -/
def t11 : NFn := ⟨50, [(.tmp 8)],
 (.seq
 (.ops [
 ⟨(some 5), .box (.tmp 1), none⟩,
 ⟨(some 8), .move (.const (.bool false)), none⟩])
 (.seq
 (.ops [
 ⟨(some 12), .move (.tmp 0), none⟩,
 ⟨(some 13), .load 2 true (.tmp 5), none⟩,
 ⟨(some 14), .move (.tmp 2), none⟩,
 ⟨(some 15), .call 32 [(.tmp 12), (.tmp 13), (.tmp 14)], none⟩,
 ⟨(some 11), .move (.tmp 15), none⟩,
 ⟨(some 16), .extract (.tmp 11) 0, none⟩,
 ⟨(some 17), .extract (.tmp 11) 1, none⟩,
 ⟨(some 9), .move (.tmp 16), none⟩,
 ⟨(some 10), .move (.tmp 17), none⟩])
 (.seq
 (.seq
 (.ops [
 ⟨(some 18), .move (.tmp 10), none⟩,
 ⟨(some 19), .move (.tmp 18), none⟩,
 ⟨(some 20), .move (.tmp 0), (some (19, false))⟩,
 ⟨(some 21), .load 2 true (.tmp 5), (some (19, false))⟩,
 ⟨(some 22), .move (.tmp 2), (some (19, false))⟩,
 ⟨(some 23), .call 33 [(.tmp 20), (.tmp 21), (.tmp 22)], (some (19, false))⟩,
 ⟨(some 24), .un .not (.tmp 23), (some (19, false))⟩,
 ⟨(some 25), .pick (.tmp 19) (.const (.bool true)) (.tmp 24), none⟩])
 (.cond (.tmp 25)
 (.seq
 (.ops [
 ⟨(some 8), .move (.const (.bool false)), none⟩])
 .ret)
 .skip))
 (.seq
 (.draw 2 [
 ⟨0, ⟨(some 26), .move (.tmp 0), none⟩, [], 0⟩,
 ⟨1, ⟨(some 27), .bslice 0 [] [], none⟩, [], 0⟩,
 ⟨2, ⟨(some 28), .move (.tmp 0), none⟩, [], 1⟩,
 ⟨3, ⟨(some 29), .nilCheck (.tmp 28), none⟩, [2], 1⟩,
 ⟨4, ⟨(some 30), .off (.tmp 29) 1, none⟩, [3, 2], 1⟩,
 ⟨5, ⟨(some 31), .load 1 false (.tmp 30), none⟩, [4, 3, 2], 1⟩,
 ⟨6, ⟨(some 32), .move (.tmp 9), none⟩, [], 1⟩,
 ⟨7, ⟨(some 33), .slice (.tmp 31) none (some (.tmp 32)) none 4, none⟩, [5, 4, 3, 2, 6], 1⟩,
 ⟨8, ⟨(some 34), .append 4 32 (.tmp 27) (.tmp 33), none⟩, [1, 7, 5, 4, 3, 2, 6], 1⟩,
 ⟨9, ⟨(some 35), .load 2 true (.tmp 5), none⟩, [], 1⟩,
 ⟨10, ⟨(some 36), .move (.tmp 2), none⟩, [], 1⟩,
 ⟨11, ⟨(some 37), .move (.tmp 3), none⟩, [], 1⟩,
 ⟨12, ⟨(some 38), .build [(.int .u64 0), (.int .u64 0), (.int .i64 0), (.int .i64 0)] [(0, 2, (.tmp 35)), (2, 1, (.tmp 36)), (3, 1, (.tmp 37))], none⟩, [9, 10, 11], 1⟩,
 ⟨13, ⟨(some 39), .bslice 1 [(.int .u64 0), (.int .u64 0), (.int .i64 0), (.int .i64 0)] [(0, 4, (.tmp 38))], none⟩, [12, 9, 10, 11], 1⟩,
 ⟨14, ⟨(some 40), .append 4 32 (.tmp 34) (.tmp 39), none⟩, [8, 1, 7, 5, 4, 3, 2, 6, 13, 12, 9, 10, 11], 2⟩,
 ⟨15, ⟨(some 41), .move (.tmp 0), none⟩, [], 2⟩,
 ⟨16, ⟨(some 42), .nilCheck (.tmp 41), none⟩, [15], 2⟩,
 ⟨17, ⟨(some 43), .off (.tmp 42) 1, none⟩, [16, 15], 2⟩,
 ⟨18, ⟨(some 44), .load 1 false (.tmp 43), none⟩, [17, 16, 15], 2⟩,
 ⟨19, ⟨(some 45), .move (.tmp 9), none⟩, [], 2⟩,
 ⟨20, ⟨(some 46), .slice (.tmp 44) (some (.tmp 45)) none none 4, none⟩, [18, 17, 16, 15, 19], 2⟩,
 ⟨21, ⟨(some 47), .append 4 32 (.tmp 40) (.tmp 46), none⟩, [14, 8, 1, 7, 5, 4, 3, 2, 6, 13, 12, 9, 10, 11, 20, 18, 17, 16, 15, 19], 2⟩,
 ⟨22, ⟨(some 48), .nilCheck (.tmp 26), none⟩, [0, 1, 2, 3, 4, 5, 6, 7, 8, 9, 10, 11, 12, 13, 14, 15, 16, 17, 18, 19, 20, 21], 2⟩,
 ⟨23, ⟨(some 49), .off (.tmp 48) 1, none⟩, [22, 0, 1, 2, 3, 4, 5, 6, 7, 8, 9, 10, 11, 12, 13, 14, 15, 16, 17, 18, 19, 20, 21], 2⟩,
 ⟨24, ⟨none, .store 1 (.tmp 49) (.tmp 47), none⟩, [23, 22, 0, 1, 2, 3, 4, 5, 6, 7, 8, 9, 10, 11, 12, 13, 14, 15, 16, 17, 18, 19, 20, 21], 2⟩])
 (.seq
 (.ops [
 ⟨(some 8), .move (.const (.bool true)), none⟩])
 .ret)))))⟩
theorem t11_ok : goodFn Try.prog 11 = true ∧ cfn Try.prog 11 = t11 := ⟨by kernel_rfl, by kernel_rfl⟩

/-- matchguard/matchguardref01.Xor -/
def t13 : NFn := ⟨27, [(.cell 4 2 true)],
 (.seq
 (.ops [
 ⟨(some 2), .box (.tmp 0), none⟩,
 ⟨(some 3), .box (.tmp 1), none⟩,
 ⟨(some 4), .alloc [(.int .u64 0), (.int .u64 0)], none⟩])
 (.seq
 (.draw 2 [
 ⟨0, ⟨(some 8), .load 2 true (.tmp 2), none⟩, [], 0⟩,
 ⟨1, ⟨(some 9), .call 34 [(.tmp 8)], none⟩, [0], 0⟩,
 ⟨2, ⟨(some 10), .load 2 true (.tmp 3), none⟩, [], 0⟩,
 ⟨3, ⟨(some 11), .call 34 [(.tmp 10)], none⟩, [2, 1, 0], 0⟩,
 ⟨4, ⟨(some 5), .alloc (fill 128 (.bool false)), none⟩, [], 0⟩,
 ⟨5, ⟨(some 6), .alloc (fill 128 (.bool false)), none⟩, [], 1⟩,
 ⟨6, ⟨none, .store 128 (.tmp 5) (.tmp 9), none⟩, [4, 1, 0, 3, 2, 5], 2⟩,
 ⟨7, ⟨none, .store 128 (.tmp 6) (.tmp 11), none⟩, [5, 3, 2, 1, 0, 6, 4], 2⟩])
 (.seq
 (.seq
 (.ops [
 ⟨(some 12), .move (.const (.int .i64 0)), none⟩])
 (.block 0
 (.loop
 (.seq
 (.ops [
 ⟨(some 13), .bin .lss (.tmp 12) (.const (.int .i64 128)), none⟩])
 (.seq
 (.cond (.tmp 13)
 .skip
 (.exit 0))
 (.seq
 (.block 1
 (.seq
 (.ops [
 ⟨(some 14), .move (.tmp 12), none⟩,
 ⟨(some 7), .move (.tmp 14), none⟩])
 (.draw 0 [
 ⟨0, ⟨(some 15), .move (.tmp 7), none⟩, [], 0⟩,
 ⟨1, ⟨(some 16), .move (.tmp 7), none⟩, [], 0⟩,
 ⟨2, ⟨(some 17), .idxArr (.tmp 5) (.tmp 16) 128 1, none⟩, [1], 0⟩,
 ⟨3, ⟨(some 18), .load 1 false (.tmp 17), none⟩, [2, 1], 0⟩,
 ⟨4, ⟨(some 19), .move (.tmp 7), none⟩, [], 0⟩,
 ⟨5, ⟨(some 20), .idxArr (.tmp 6) (.tmp 19) 128 1, none⟩, [4], 0⟩,
 ⟨6, ⟨(some 21), .load 1 false (.tmp 20), none⟩, [5, 4], 0⟩,
 ⟨7, ⟨(some 22), .eq true false [.bool] (.tmp 18) (.tmp 21), none⟩, [3, 2, 1, 6, 5, 4], 0⟩,
 ⟨8, ⟨(some 23), .idxArr (.tmp 5) (.tmp 15) 128 1, none⟩, [0, 1, 2, 3, 4, 5, 6, 7], 0⟩,
 ⟨9, ⟨none, .store 1 (.tmp 23) (.tmp 22), none⟩, [8, 0, 1, 2, 3, 4, 5, 6, 7], 0⟩])))
 (.ops [
 ⟨(some 24), .bin .add (.tmp 12) (.const (.int .i64 1)), none⟩,
 ⟨(some 12), .move (.tmp 24), none⟩])))))))
 (.seq
 (.ops [
 ⟨(some 25), .load 128 true (.tmp 5), none⟩,
 ⟨(some 26), .call 35 [(.tmp 25)], none⟩,
 ⟨none, .store 2 (.tmp 4) (.tmp 26), none⟩])
 .ret))))⟩
theorem t13_ok : goodFn Try.prog 13 = true ∧ cfn Try.prog 13 = t13 := ⟨by kernel_rfl, by kernel_rfl⟩

/-- (*matchguard/trie.Trie).Longest -/
def t14 : NFn := ⟨55, [(.tmp 4), (.tmp 5), (.tmp 6)],
 (.seq
 (.ops [
 ⟨(some 3), .box (.tmp 1), none⟩,
 ⟨(some 4), .move (.const (.int .i64 0)), none⟩,
 ⟨(some 5), .move (.const (.int .i64 0)), none⟩,
 ⟨(some 6), .move (.const (.bool false)), none⟩])
 (.seq
 (.seq
 (.draw 0 [
 ⟨0, ⟨(some 14), .move (.tmp 0), none⟩, [], 0⟩,
 ⟨1, ⟨(some 15), .eq false false [.ptr] (.tmp 14) (.const (.ptr none)), none⟩, [0], 0⟩,
 ⟨2, ⟨(some 16), .move (.tmp 15), none⟩, [1, 0], 0⟩,
 ⟨3, ⟨(some 17), .load 2 true (.tmp 3), (some (16, false))⟩, [2, 1, 0], 0⟩,
 ⟨4, ⟨(some 18), .move (.tmp 0), (some (16, false))⟩, [2, 1, 0], 0⟩,
 ⟨5, ⟨(some 19), .nilCheck (.tmp 18), (some (16, false))⟩, [4, 2, 1, 0], 0⟩,
 ⟨6, ⟨(some 20), .off (.tmp 19) 0, (some (16, false))⟩, [5, 4, 2, 1, 0], 0⟩,
 ⟨7, ⟨(some 21), .load 1 false (.tmp 20), (some (16, false))⟩, [6, 5, 4, 2, 1, 0], 0⟩,
 ⟨8, ⟨(some 22), .call 36 [(.tmp 17), (.tmp 21)], (some (16, false))⟩, [3, 2, 1, 0, 7, 6, 5, 4], 0⟩,
 ⟨9, ⟨(some 23), .un .not (.tmp 22), (some (16, false))⟩, [8, 3, 2, 1, 0, 7, 6, 5, 4], 0⟩,
 ⟨10, ⟨(some 24), .pick (.tmp 16) (.const (.bool true)) (.tmp 23), none⟩, [2, 1, 0, 9, 8, 3, 7, 6, 5, 4], 0⟩])
 (.cond (.tmp 24)
 (.seq
 (.ops [
 ⟨(some 4), .move (.const (.int .i64 0)), none⟩,
 ⟨(some 5), .move (.const (.int .i64 0)), none⟩,
 ⟨(some 6), .move (.const (.bool false)), none⟩])
 .ret)
 .skip))
 (.seq
 (.ops [
 ⟨(some 7), .alloc [(.int .i64 0)], none⟩,
 ⟨(some 8), .alloc [(.int .i64 0)], none⟩,
 ⟨(some 9), .alloc [(.bool false)], none⟩,
 ⟨none, .store 1 (.tmp 7) (.const (.int .i64 0)), none⟩,
 ⟨none, .store 1 (.tmp 8) (.const (.int .i64 0)), none⟩,
 ⟨none, .store 1 (.tmp 9) (.const (.bool false)), none⟩])
 (.seq
 (.ops [
 ⟨(some 25), .move (.tmp 0), none⟩,
 ⟨(some 26), .nilCheck (.tmp 25), none⟩,
 ⟨(some 27), .off (.tmp 26) 1, none⟩,
 ⟨(some 28), .load 1 false (.tmp 27), none⟩,
 ⟨(some 10), .alloc [(.ptr none)], none⟩,
 ⟨(some 11), .alloc [(.int .i64 0)], none⟩,
 ⟨none, .store 1 (.tmp 10) (.tmp 28), none⟩,
 ⟨none, .store 1 (.tmp 11) (.const (.int .i64 0)), none⟩])
 (.seq
 (.ops [
 ⟨(some 29), .mkfunc (.func 37) [] [(.tmp 10), (.tmp 11), (.tmp 7), (.tmp 8), (.tmp 9)], none⟩,
 ⟨(some 12), .alloc [.nilFunc], none⟩,
 ⟨none, .store 1 (.tmp 12) (.tmp 29), none⟩])
 (.seq
 (.ops [
 ⟨(some 30), .load 1 false (.tmp 12), none⟩,
 ⟨(some 31), .callv (.tmp 30) [], none⟩])
 (.seq
 (.seq
 (.draw 0 [
 ⟨0, ⟨(some 32), .move (.tmp 0), none⟩, [], 0⟩,
 ⟨1, ⟨(some 33), .load 2 true (.tmp 3), none⟩, [], 0⟩,
 ⟨2, ⟨(some 34), .move (.tmp 0), none⟩, [], 0⟩,
 ⟨3, ⟨(some 35), .nilCheck (.tmp 34), none⟩, [2], 0⟩,
 ⟨4, ⟨(some 36), .off (.tmp 35) 0, none⟩, [3, 2], 0⟩,
 ⟨5, ⟨(some 37), .load 1 false (.tmp 36), none⟩, [4, 3, 2], 0⟩,
 ⟨6, ⟨(some 38), .call 31 [(.tmp 32), (.tmp 33), (.tmp 37)], none⟩, [0, 1, 5, 4, 3, 2], 0⟩])
 (.block 0
 (.rangeF (.tmp 38) 39
 (.ops [
 ⟨(some 13), .move (.tmp 39), none⟩])
 (.block 1
 (.seq
 (.seq
 (.ops [
 ⟨(some 40), .load 1 false (.tmp 10), none⟩,
 ⟨(some 41), .eq false false [.ptr] (.tmp 40) (.const (.ptr none)), none⟩])
 (.cond (.tmp 41)
 (.exit 0)
 .skip))
 (.seq
 (.draw 0 [
 ⟨0, ⟨(some 42), .load 1 false (.tmp 10), none⟩, [], 0⟩,
 ⟨1, ⟨(some 43), .move (.tmp 13), none⟩, [], 0⟩,
 ⟨2, ⟨(some 44), .nilCheck (.tmp 42), none⟩, [0], 0⟩,
 ⟨3, ⟨(some 45), .off (.tmp 44) 0, none⟩, [2, 0], 0⟩,
 ⟨4, ⟨(some 46), .idxArr (.tmp 45) (.tmp 43) 2 1, none⟩, [3, 2, 0, 1], 0⟩,
 ⟨5, ⟨(some 47), .load 1 false (.tmp 46), none⟩, [4, 3, 2, 0, 1], 0⟩,
 ⟨6, ⟨(some 48), .load 1 false (.tmp 11), none⟩, [], 0⟩,
 ⟨7, ⟨(some 49), .bin .add (.tmp 48) (.const (.int .i64 1)), none⟩, [6], 0⟩,
 ⟨8, ⟨none, .store 1 (.tmp 10) (.tmp 47), none⟩, [5, 4, 3, 2, 0, 1], 0⟩,
 ⟨9, ⟨none, .store 1 (.tmp 11) (.tmp 49), none⟩, [7, 6, 8, 5, 4, 3, 2, 0, 1], 0⟩])
 (.ops [
 ⟨(some 50), .load 1 false (.tmp 12), none⟩,
 ⟨(some 51), .callv (.tmp 50) [], none⟩])))))))
 (.seq
 (.draw 0 [
 ⟨0, ⟨(some 52), .load 1 false (.tmp 7), none⟩, [], 0⟩,
 ⟨1, ⟨(some 53), .load 1 false (.tmp 8), none⟩, [], 0⟩,
 ⟨2, ⟨(some 54), .load 1 false (.tmp 9), none⟩, [], 0⟩,
 ⟨3, ⟨(some 4), .move (.tmp 52), none⟩, [0], 0⟩,
 ⟨4, ⟨(some 5), .move (.tmp 53), none⟩, [1, 3, 0], 0⟩,
 ⟨5, ⟨(some 6), .move (.tmp 54), none⟩, [2, 4, 1, 3, 0], 0⟩])
 .ret))))))))⟩
theorem t14_ok : goodFn Try.prog 14 = true ∧ cfn Try.prog 14 = t14 := ⟨by kernel_rfl, by kernel_rfl⟩

/-- matchguard/matchguardlaw12.begun -/
def t16 : NFn := ⟨33, [(.tmp 0)],
 (.seq
 (.ops [
 ⟨(some 0), .move (.const (.bool false)), none⟩])
 (.seq
 (.ops [
 ⟨(some 5), .call 7 [(.const (.int .i64 32))], none⟩,
 ⟨(some 1), .move (.tmp 5), none⟩])
 (.seq
 (.ops [
 ⟨(some 6), .move (.tmp 1), none⟩,
 ⟨(some 7), .build [(.int .u64 0), (.int .u64 0)] [(1, 1, (.const (.int .u64 167772160)))], none⟩,
 ⟨(some 8), .call 10 [(.tmp 6), (.tmp 7), (.const (.int .i64 8)), (.const (.int .i64 1))], none⟩])
 (.seq
 (.ops [
 ⟨(some 9), .move (.tmp 1), none⟩,
 ⟨(some 10), .build [(.int .u64 0), (.int .u64 0)] [(1, 1, (.const (.int .u64 167837696)))], none⟩,
 ⟨(some 11), .call 10 [(.tmp 9), (.tmp 10), (.const (.int .i64 16)), (.const (.int .i64 2))], none⟩])
 (.seq
 (.ops [
 ⟨(some 13), .move (.tmp 1), none⟩,
 ⟨(some 14), .build [(.int .u64 0), (.int .u64 0)] [(1, 1, (.const (.int .u64 167838211)))], none⟩,
 ⟨(some 15), .call 14 [(.tmp 13), (.tmp 14)], none⟩,
 ⟨(some 12), .move (.tmp 15), none⟩,
 ⟨(some 16), .extract (.tmp 12) 0, none⟩,
 ⟨(some 17), .extract (.tmp 12) 1, none⟩,
 ⟨(some 18), .extract (.tmp 12) 2, none⟩,
 ⟨(some 2), .move (.tmp 16), none⟩,
 ⟨(some 3), .move (.tmp 17), none⟩,
 ⟨(some 4), .move (.tmp 18), none⟩])
 (.seq
 (.ops [
 ⟨(some 19), .move (.tmp 2), none⟩,
 ⟨(some 20), .bin .eql (.tmp 19) (.const (.int .i64 16)), none⟩,
 ⟨(some 21), .move (.tmp 20), none⟩,
 ⟨(some 22), .move (.tmp 3), (some (21, true))⟩,
 ⟨(some 23), .bin .eql (.tmp 22) (.const (.int .i64 2)), (some (21, true))⟩,
 ⟨(some 24), .pick (.tmp 21) (.tmp 23) (.const (.bool false)), none⟩,
 ⟨(some 25), .move (.tmp 24), none⟩,
 ⟨(some 26), .move (.tmp 4), (some (25, true))⟩,
 ⟨(some 27), .pick (.tmp 25) (.tmp 26) (.const (.bool false)), none⟩,
 ⟨(some 28), .move (.tmp 27), none⟩,
 ⟨(some 29), .move (.tmp 1), (some (28, true))⟩,
 ⟨(some 30), .call 24 [(.tmp 29)], (some (28, true))⟩,
 ⟨(some 31), .bin .eql (.tmp 30) (.const (.int .i64 17)), (some (28, true))⟩,
 ⟨(some 32), .pick (.tmp 28) (.tmp 31) (.const (.bool false)), none⟩,
 ⟨(some 0), .move (.tmp 32), none⟩])
 .ret))))))⟩
theorem t16_ok : goodFn Try.prog 16 = true ∧ cfn Try.prog 16 = t16 := ⟨by kernel_rfl, by kernel_rfl⟩

/-- (*matchguard/trie.Trie).Remove -/
def t17 : NFn := ⟨94, [(.tmp 6)],
 (.seq
 (.ops [
 ⟨(some 4), .box (.tmp 1), none⟩,
 ⟨(some 6), .move (.const (.bool false)), none⟩])
 (.seq
 (.seq
 (.ops [
 ⟨(some 15), .move (.tmp 0), none⟩,
 ⟨(some 16), .load 2 true (.tmp 4), none⟩,
 ⟨(some 17), .move (.tmp 2), none⟩,
 ⟨(some 18), .call 19 [(.tmp 15), (.tmp 16), (.tmp 17)], none⟩,
 ⟨(some 14), .move (.tmp 18), none⟩,
 ⟨(some 19), .extract (.tmp 14) 0, none⟩,
 ⟨(some 20), .extract (.tmp 14) 1, none⟩,
 ⟨(some 7), .move (.tmp 19), none⟩,
 ⟨(some 8), .move (.tmp 20), none⟩])
 (.seq
 (.ops [
 ⟨(some 21), .move (.tmp 8), none⟩,
 ⟨(some 22), .un .not (.tmp 21), none⟩])
 (.cond (.tmp 22)
 (.seq
 (.ops [
 ⟨(some 6), .move (.const (.bool false)), none⟩])
 .ret)
 .skip)))
 (.seq
 (.ops [
 ⟨(some 23), .move (.tmp 0), none⟩,
 ⟨(some 24), .nilCheck (.tmp 23), none⟩,
 ⟨(some 25), .off (.tmp 24) 1, none⟩,
 ⟨(some 26), .load 1 false (.tmp 25), none⟩,
 ⟨(some 27), .bslice 1 [(.ptr none)] [(0, 1, (.tmp 26))], none⟩,
 ⟨(some 9), .alloc [(.slice none 0 (.fix 0))], none⟩,
 ⟨(some 10), .alloc [(.slice none 0 (.fix 0))], none⟩,
 ⟨none, .store 1 (.tmp 9) (.tmp 27), none⟩,
 ⟨none, .store 1 (.tmp 10) (.const (.slice none 0 (.fix 0))), none⟩])
 (.seq
 (.seq
 (.ops [
 ⟨(some 28), .move (.tmp 0), none⟩,
 ⟨(some 29), .load 2 true (.tmp 4), none⟩,
 ⟨(some 30), .move (.tmp 2), none⟩,
 ⟨(some 31), .call 31 [(.tmp 28), (.tmp 29), (.tmp 30)], none⟩])
 (.block 0
 (.rangeF (.tmp 31) 32
 (.ops [
 ⟨(some 11), .move (.tmp 32), none⟩])
 (.block 1
 (.draw 2 [
 ⟨0, ⟨(some 33), .load 1 false (.tmp 9), none⟩, [], 0⟩,
 ⟨1, ⟨(some 34), .load 1 false (.tmp 9), none⟩, [], 0⟩,
 ⟨2, ⟨(some 35), .load 1 false (.tmp 9), none⟩, [], 0⟩,
 ⟨3, ⟨(some 36), .lenSl (.tmp 35), none⟩, [2], 0⟩,
 ⟨4, ⟨(some 37), .bin .sub (.tmp 36) (.const (.int .i64 1)), none⟩, [3, 2], 0⟩,
 ⟨5, ⟨(some 38), .idxSl (.tmp 34) (.tmp 37) 1, none⟩, [1, 4, 3, 2], 0⟩,
 ⟨6, ⟨(some 39), .load 1 false (.tmp 38), none⟩, [5, 1, 4, 3, 2], 0⟩,
 ⟨7, ⟨(some 40), .move (.tmp 11), none⟩, [], 0⟩,
 ⟨8, ⟨(some 41), .nilCheck (.tmp 39), none⟩, [6, 5, 1, 4, 3, 2], 0⟩,
 ⟨9, ⟨(some 42), .off (.tmp 41) 0, none⟩, [8, 6, 5, 1, 4, 3, 2], 0⟩,
 ⟨10, ⟨(some 43), .idxArr (.tmp 42) (.tmp 40) 2 1, none⟩, [9, 8, 6, 5, 1, 4, 3, 2, 7], 0⟩,
 ⟨11, ⟨(some 44), .load 1 false (.tmp 43), none⟩, [10, 9, 8, 6, 5, 1, 4, 3, 2, 7], 0⟩,
 ⟨12, ⟨(some 45), .bslice 1 [(.ptr none)] [(0, 1, (.tmp 44))], none⟩, [11, 10, 9, 8, 6, 5, 1, 4, 3, 2, 7], 0⟩,
 ⟨13, ⟨(some 46), .append 1 8 (.tmp 33) (.tmp 45), none⟩, [0, 12, 11, 10, 9, 8, 6, 5, 1, 4, 3, 2, 7], 1⟩,
 ⟨14, ⟨(some 47), .load 1 false (.tmp 10), none⟩, [], 1⟩,
 ⟨15, ⟨(some 48), .move (.tmp 11), none⟩, [], 1⟩,
 ⟨16, ⟨(some 49), .bslice 1 [(.int .i64 0)] [(0, 1, (.tmp 48))], none⟩, [15], 1⟩,
 ⟨17, ⟨(some 50), .append 1 8 (.tmp 47) (.tmp 49), none⟩, [14, 16, 15, 13, 0, 12, 11, 10, 9, 8, 6, 5, 1, 4, 3, 2, 7], 2⟩,
 ⟨18, ⟨none, .store 1 (.tmp 9) (.tmp 46), none⟩, [13, 0, 12, 11, 10, 9, 8, 6, 5, 1, 4, 3, 2, 7, 17, 14, 16, 15], 2⟩,
 ⟨19, ⟨none, .store 1 (.tmp 10) (.tmp 50), none⟩, [17, 14, 16, 15, 13, 0, 12, 11, 10, 9, 8, 6, 5, 1, 4, 3, 2, 7, 18], 2⟩])))))
 (.seq
 (.ops [
 ⟨(some 51), .load 1 false (.tmp 9), none⟩,
 ⟨(some 52), .move (.tmp 2), none⟩,
 ⟨(some 53), .idxSl (.tmp 51) (.tmp 52) 1, none⟩,
 ⟨(some 54), .load 1 false (.tmp 53), none⟩,
 ⟨(some 12), .move (.tmp 54), none⟩])
 (.seq
 (.ops [
 ⟨(some 55), .move (.tmp 12), none⟩,
 ⟨(some 56), .move (.tmp 12), none⟩,
 ⟨(some 57), .nilCheck (.tmp 55), none⟩,
 ⟨(some 58), .off (.tmp 57) 2, none⟩,
 ⟨none, .store 1 (.tmp 58) (.const (.bool false)), none⟩,
 ⟨(some 59), .nilCheck (.tmp 56), none⟩,
 ⟨(some 60), .off (.tmp 59) 3, none⟩,
 ⟨none, .store 1 (.tmp 60) (.const (.int .i64 0)), none⟩])
 (.seq
 (.seq
 (.ops [
 ⟨(some 61), .move (.tmp 2), none⟩,
 ⟨(some 62), .bin .sub (.tmp 61) (.const (.int .i64 1)), none⟩,
 ⟨(some 13), .move (.tmp 62), none⟩])
 (.block 2
 (.loop
 (.seq
 (.seq
 (.ops [
 ⟨(some 63), .move (.tmp 13), none⟩,
 ⟨(some 64), .bin .geq (.tmp 63) (.const (.int .i64 0)), none⟩,
 ⟨(some 65), .move (.tmp 64), none⟩,
 ⟨(some 66), .load 1 false (.tmp 9), (some (65, true))⟩,
 ⟨(some 67), .move (.tmp 13), (some (65, true))⟩,
 ⟨(some 68), .bin .add (.tmp 67) (.const (.int .i64 1)), (some (65, true))⟩,
 ⟨(some 69), .idxSl (.tmp 66) (.tmp 68) 1, (some (65, true))⟩,
 ⟨(some 70), .load 1 false (.tmp 69), (some (65, true))⟩,
 ⟨(some 71), .call 39 [(.tmp 70)], (some (65, true))⟩,
 ⟨(some 72), .pick (.tmp 65) (.tmp 71) (.const (.bool false)), none⟩])
 (.cond (.tmp 72)
 .skip
 (.exit 2)))
 (.seq
 (.block 3
 (.draw 0 [
 ⟨0, ⟨(some 75), .load 1 false (.tmp 9), none⟩, [], 0⟩,
 ⟨1, ⟨(some 76), .move (.tmp 13), none⟩, [], 0⟩,
 ⟨2, ⟨(some 77), .idxSl (.tmp 75) (.tmp 76) 1, none⟩, [0, 1], 0⟩,
 ⟨3, ⟨(some 78), .load 1 false (.tmp 77), none⟩, [2, 0, 1], 0⟩,
 ⟨4, ⟨(some 79), .load 1 false (.tmp 10), none⟩, [], 0⟩,
 ⟨5, ⟨(some 80), .move (.tmp 13), none⟩, [], 0⟩,
 ⟨6, ⟨(some 81), .idxSl (.tmp 79) (.tmp 80) 1, none⟩, [4, 5], 0⟩,
 ⟨7, ⟨(some 82), .load 1 false (.tmp 81), none⟩, [6, 4, 5], 0⟩,
 ⟨8, ⟨(some 83), .nilCheck (.tmp 78), none⟩, [3, 2, 0, 1], 0⟩,
 ⟨9, ⟨(some 84), .off (.tmp 83) 0, none⟩, [8, 3, 2, 0, 1], 0⟩,
 ⟨10, ⟨(some 85), .idxArr (.tmp 84) (.tmp 82) 2 1, none⟩, [9, 8, 3, 2, 0, 1, 7, 6, 4, 5], 0⟩,
 ⟨11, ⟨none, .store 1 (.tmp 85) (.const (.ptr none)), none⟩, [10, 9, 8, 3, 2, 0, 1, 7, 6, 4, 5], 0⟩]))
 (.ops [
 ⟨(some 73), .move (.tmp 13), none⟩,
 ⟨(some 74), .bin .sub (.tmp 73) (.const (.int .i64 1)), none⟩,
 ⟨(some 13), .move (.tmp 74), none⟩]))))))
 (.seq
 (.seq
 (.ops [
 ⟨(some 86), .move (.tmp 0), none⟩,
 ⟨(some 87), .nilCheck (.tmp 86), none⟩,
 ⟨(some 88), .off (.tmp 87) 1, none⟩,
 ⟨(some 89), .load 1 false (.tmp 88), none⟩,
 ⟨(some 90), .call 39 [(.tmp 89)], none⟩])
 (.cond (.tmp 90)
 (.ops [
 ⟨(some 91), .move (.tmp 0), none⟩,
 ⟨(some 92), .nilCheck (.tmp 91), none⟩,
 ⟨(some 93), .off (.tmp 92) 1, none⟩,
 ⟨none, .store 1 (.tmp 93) (.const (.ptr none)), none⟩])
 .skip))
 (.seq
 (.ops [
 ⟨(some 6), .move (.const (.bool true)), none⟩])
 .ret)))))))))⟩
theorem t17_ok : goodFn Try.prog 17 = true ∧ cfn Try.prog 17 = t17 := ⟨by kernel_rfl, by kernel_rfl⟩

/-- (*matchguard/matchguardref12.Trie).Remove -/
def t18 : NFn := ⟨37, [(.tmp 6)],
 (.seq
 (.ops [
 ⟨(some 4), .box (.tmp 1), none⟩,
 ⟨(some 6), .move (.const (.bool false)), none⟩])
 (.seq
 (.ops [
 ⟨(some 10), .move (.tmp 0), none⟩,
 ⟨(some 11), .load 2 true (.tmp 4), none⟩,
 ⟨(some 12), .move (.tmp 2), none⟩,
 ⟨(some 13), .call 32 [(.tmp 10), (.tmp 11), (.tmp 12)], none⟩,
 ⟨(some 9), .move (.tmp 13), none⟩,
 ⟨(some 14), .extract (.tmp 9) 0, none⟩,
 ⟨(some 15), .extract (.tmp 9) 1, none⟩,
 ⟨(some 7), .move (.tmp 14), none⟩,
 ⟨(some 8), .move (.tmp 15), none⟩])
 (.seq
 (.seq
 (.ops [
 ⟨(some 16), .move (.tmp 8), none⟩])
 (.cond (.tmp 16)
 (.draw 1 [
 ⟨0, ⟨(some 17), .move (.tmp 0), none⟩, [], 0⟩,
 ⟨1, ⟨(some 18), .bslice 0 [] [], none⟩, [], 0⟩,
 ⟨2, ⟨(some 19), .move (.tmp 0), none⟩, [], 1⟩,
 ⟨3, ⟨(some 20), .nilCheck (.tmp 19), none⟩, [2], 1⟩,
 ⟨4, ⟨(some 21), .off (.tmp 20) 1, none⟩, [3, 2], 1⟩,
 ⟨5, ⟨(some 22), .load 1 false (.tmp 21), none⟩, [4, 3, 2], 1⟩,
 ⟨6, ⟨(some 23), .move (.tmp 7), none⟩, [], 1⟩,
 ⟨7, ⟨(some 24), .slice (.tmp 22) none (some (.tmp 23)) none 4, none⟩, [5, 4, 3, 2, 6], 1⟩,
 ⟨8, ⟨(some 25), .append 4 32 (.tmp 18) (.tmp 24), none⟩, [1, 7, 5, 4, 3, 2, 6], 1⟩,
 ⟨9, ⟨(some 26), .move (.tmp 0), none⟩, [], 1⟩,
 ⟨10, ⟨(some 27), .nilCheck (.tmp 26), none⟩, [9], 1⟩,
 ⟨11, ⟨(some 28), .off (.tmp 27) 1, none⟩, [10, 9], 1⟩,
 ⟨12, ⟨(some 29), .load 1 false (.tmp 28), none⟩, [11, 10, 9], 1⟩,
 ⟨13, ⟨(some 30), .move (.tmp 7), none⟩, [], 1⟩,
 ⟨14, ⟨(some 31), .bin .add (.tmp 30) (.const (.int .i64 1)), none⟩, [13], 1⟩,
 ⟨15, ⟨(some 32), .slice (.tmp 29) (some (.tmp 31)) none none 4, none⟩, [12, 11, 10, 9, 14, 13], 1⟩,
 ⟨16, ⟨(some 33), .append 4 32 (.tmp 25) (.tmp 32), none⟩, [8, 1, 7, 5, 4, 3, 2, 6, 15, 12, 11, 10, 9, 14, 13], 1⟩,
 ⟨17, ⟨(some 34), .nilCheck (.tmp 17), none⟩, [0, 1, 2, 3, 4, 5, 6, 7, 8, 9, 10, 11, 12, 13, 14, 15, 16], 1⟩,
 ⟨18, ⟨(some 35), .off (.tmp 34) 1, none⟩, [17, 0, 1, 2, 3, 4, 5, 6, 7, 8, 9, 10, 11, 12, 13, 14, 15, 16], 1⟩,
 ⟨19, ⟨none, .store 1 (.tmp 35) (.tmp 33), none⟩, [18, 17, 0, 1, 2, 3, 4, 5, 6, 7, 8, 9, 10, 11, 12, 13, 14, 15, 16], 1⟩])
 .skip))
 (.seq
 (.ops [
 ⟨(some 36), .move (.tmp 8), none⟩,
 ⟨(some 6), .move (.tmp 36), none⟩])
 .ret))))⟩
theorem t18_ok : goodFn Try.prog 18 = true ∧ cfn Try.prog 18 = t18 := ⟨by kernel_rfl, by kernel_rfl⟩

/-- (*matchguard/trie.Trie).Get -/
def t19 : NFn := ⟨26, [(.tmp 6), (.tmp 7)],
 (.seq
 (.ops [
 ⟨(some 4), .box (.tmp 1), none⟩,
 ⟨(some 6), .move (.const (.int .i64 0)), none⟩,
 ⟨(some 7), .move (.const (.bool false)), none⟩])
 (.seq
 (.ops [
 ⟨(some 9), .move (.tmp 0), none⟩,
 ⟨(some 10), .load 2 true (.tmp 4), none⟩,
 ⟨(some 11), .move (.tmp 2), none⟩,
 ⟨(some 12), .call 30 [(.tmp 9), (.tmp 10), (.tmp 11)], none⟩,
 ⟨(some 8), .move (.tmp 12), none⟩])
 (.seq
 (.seq
 (.ops [
 ⟨(some 13), .move (.tmp 8), none⟩,
 ⟨(some 14), .eq false false [.ptr] (.tmp 13) (.const (.ptr none)), none⟩,
 ⟨(some 15), .move (.tmp 14), none⟩,
 ⟨(some 16), .move (.tmp 8), (some (15, false))⟩,
 ⟨(some 17), .nilCheck (.tmp 16), (some (15, false))⟩,
 ⟨(some 18), .off (.tmp 17) 2, (some (15, false))⟩,
 ⟨(some 19), .load 1 false (.tmp 18), (some (15, false))⟩,
 ⟨(some 20), .un .not (.tmp 19), (some (15, false))⟩,
 ⟨(some 21), .pick (.tmp 15) (.const (.bool true)) (.tmp 20), none⟩])
 (.cond (.tmp 21)
 (.seq
 (.ops [
 ⟨(some 6), .move (.const (.int .i64 0)), none⟩,
 ⟨(some 7), .move (.const (.bool false)), none⟩])
 .ret)
 .skip))
 (.seq
 (.ops [
 ⟨(some 22), .move (.tmp 8), none⟩,
 ⟨(some 23), .nilCheck (.tmp 22), none⟩,
 ⟨(some 24), .off (.tmp 23) 3, none⟩,
 ⟨(some 25), .load 1 false (.tmp 24), none⟩,
 ⟨(some 6), .move (.tmp 25), none⟩,
 ⟨(some 7), .move (.const (.bool true)), none⟩])
 .ret))))⟩
theorem t19_ok : goodFn Try.prog 19 = true ∧ cfn Try.prog 19 = t19 := ⟨by kernel_rfl, by kernel_rfl⟩

/-- (*matchguard/matchguardref12.Trie).Get -/
def t20 : NFn := ⟨27, [(.tmp 6), (.tmp 7)],
 (.seq
 (.ops [
 ⟨(some 4), .box (.tmp 1), none⟩,
 ⟨(some 6), .move (.const (.int .i64 0)), none⟩,
 ⟨(some 7), .move (.const (.bool false)), none⟩])
 (.seq
 (.ops [
 ⟨(some 11), .move (.tmp 0), none⟩,
 ⟨(some 12), .load 2 true (.tmp 4), none⟩,
 ⟨(some 13), .move (.tmp 2), none⟩,
 ⟨(some 14), .call 32 [(.tmp 11), (.tmp 12), (.tmp 13)], none⟩,
 ⟨(some 10), .move (.tmp 14), none⟩,
 ⟨(some 15), .extract (.tmp 10) 0, none⟩,
 ⟨(some 16), .extract (.tmp 10) 1, none⟩,
 ⟨(some 8), .move (.tmp 15), none⟩,
 ⟨(some 9), .move (.tmp 16), none⟩])
 (.seq
 (.seq
 (.ops [
 ⟨(some 17), .move (.tmp 9), none⟩,
 ⟨(some 18), .un .not (.tmp 17), none⟩])
 (.cond (.tmp 18)
 (.seq
 (.ops [
 ⟨(some 6), .move (.const (.int .i64 0)), none⟩,
 ⟨(some 7), .move (.const (.bool false)), none⟩])
 .ret)
 .skip))
 (.seq
 (.ops [
 ⟨(some 19), .move (.tmp 0), none⟩,
 ⟨(some 20), .nilCheck (.tmp 19), none⟩,
 ⟨(some 21), .off (.tmp 20) 1, none⟩,
 ⟨(some 22), .load 1 false (.tmp 21), none⟩,
 ⟨(some 23), .move (.tmp 8), none⟩,
 ⟨(some 24), .idxSl (.tmp 22) (.tmp 23) 4, none⟩,
 ⟨(some 25), .off (.tmp 24) 3, none⟩,
 ⟨(some 26), .load 1 false (.tmp 25), none⟩,
 ⟨(some 6), .move (.tmp 26), none⟩,
 ⟨(some 7), .move (.const (.bool true)), none⟩])
 .ret))))⟩
theorem t20_ok : goodFn Try.prog 20 = true ∧ cfn Try.prog 20 = t20 := ⟨by kernel_rfl, by kernel_rfl⟩

/-- (*matchguard/trie.Trie).Len -/
def t21 : NFn := ⟨6, [(.tmp 2)],
 (.seq
 (.ops [
 ⟨(some 2), .move (.const (.int .i64 0)), none⟩])
 (.seq
 (.ops [
 ⟨(some 3), .move (.tmp 0), none⟩,
 ⟨(some 4), .call 23 [(.tmp 3)], none⟩,
 ⟨(some 5), .lenSl (.tmp 4), none⟩,
 ⟨(some 2), .move (.tmp 5), none⟩])
 .ret))⟩
theorem t21_ok : goodFn Try.prog 21 = true ∧ cfn Try.prog 21 = t21 := ⟨by kernel_rfl, by kernel_rfl⟩

/-- matchguard/matchguardlaw12.same -/
def t22 : NFn := ⟨32, [(.tmp 4)],
 (.seq
 (.ops [
 ⟨(some 4), .move (.const (.bool false)), none⟩])
 (.seq
 (.seq
 (.ops [
 ⟨(some 7), .move (.tmp 0), none⟩,
 ⟨(some 8), .lenSl (.tmp 7), none⟩,
 ⟨(some 9), .move (.tmp 1), none⟩,
 ⟨(some 10), .lenSl (.tmp 9), none⟩,
 ⟨(some 11), .bin .neq (.tmp 8) (.tmp 10), none⟩])
 (.cond (.tmp 11)
 (.seq
 (.ops [
 ⟨(some 4), .move (.const (.bool false)), none⟩])
 .ret)
 .skip))
 (.seq
 (.seq
 (.ops [
 ⟨(some 12), .move (.tmp 0), none⟩,
 ⟨(some 13), .lenSl (.tmp 12), none⟩,
 ⟨(some 14), .move (.const (.int .i64 0)), none⟩])
 (.block 0
 (.loop
 (.seq
 (.ops [
 ⟨(some 15), .bin .lss (.tmp 14) (.tmp 13), none⟩])
 (.seq
 (.cond (.tmp 15)
 .skip
 (.exit 0))
 (.seq
 (.block 1
 (.seq
 (.ops [
 ⟨(some 16), .move (.tmp 14), none⟩,
 ⟨(some 17), .idxSl (.tmp 12) (.tmp 14) 4, none⟩,
 ⟨(some 18), .load 4 true (.tmp 17), none⟩,
 ⟨(some 6), .alloc [(.int .u64 0), (.int .u64 0), (.int .i64 0), (.int .i64 0)], none⟩,
 ⟨(some 5), .move (.tmp 16), none⟩,
 ⟨none, .store 4 (.tmp 6) (.tmp 18), none⟩])
 (.seq
 (.draw 0 [
 ⟨0, ⟨(some 19), .off (.tmp 6) 0, none⟩, [], 0⟩,
 ⟨1, ⟨(some 20), .load 2 true (.tmp 19), none⟩, [0], 0⟩,
 ⟨2, ⟨(some 21), .off (.tmp 6) 2, none⟩, [], 0⟩,
 ⟨3, ⟨(some 22), .load 1 false (.tmp 21), none⟩, [2], 0⟩,
 ⟨4, ⟨(some 23), .off (.tmp 6) 3, none⟩, [], 0⟩,
 ⟨5, ⟨(some 24), .load 1 false (.tmp 23), none⟩, [4], 0⟩,
 ⟨6, ⟨(some 25), .build [(.int .u64 0), (.int .u64 0), (.int .i64 0), (.int .i64 0)] [(0, 2, (.tmp 20)), (2, 1, (.tmp 22)), (3, 1, (.tmp 24))], none⟩, [1, 0, 3, 2, 5, 4], 0⟩,
 ⟨7, ⟨(some 26), .move (.tmp 1), none⟩, [], 0⟩,
 ⟨8, ⟨(some 27), .move (.tmp 5), none⟩, [], 0⟩,
 ⟨9, ⟨(some 28), .idxSl (.tmp 26) (.tmp 27) 4, none⟩, [7, 8], 0⟩,
 ⟨10, ⟨(some 29), .load 4 true (.tmp 28), none⟩, [9, 7, 8], 0⟩,
 ⟨11, ⟨(some 30), .eq true true [.int, .int, .int, .int] (.tmp 25) (.tmp 29), none⟩, [6, 1, 0, 3, 2, 5, 4, 10, 9, 7, 8], 0⟩])
 (.cond (.tmp 30)
 (.seq
 (.ops [
 ⟨(some 4), .move (.const (.bool false)), none⟩])
 .ret)
 .skip))))
 (.ops [
 ⟨(some 31), .bin .add (.tmp 14) (.const (.int .i64 1)), none⟩,
 ⟨(some 14), .move (.tmp 31), none⟩])))))))
 (.seq
 (.ops [
 ⟨(some 4), .move (.const (.bool true)), none⟩])
 .ret))))⟩
theorem t22_ok : goodFn Try.prog 22 = true ∧ cfn Try.prog 22 = t22 := ⟨by kernel_rfl, by kernel_rfl⟩

/-- (*matchguard/trie.Trie).All -/
def t23 : NFn := ⟨8, [(.tmp 2)],
 (.seq
 (.ops [
 ⟨(some 2), .move (.const (.slice none 0 (.fix 0))), none⟩])
 (.seq
 (.ops [
 ⟨(some 3), .alloc [(.slice none 0 (.fix 0))], none⟩])
 (.seq
 (.ops [
 ⟨(some 4), .move (.tmp 0), none⟩,
 ⟨(some 5), .mkfunc (.func 41) [] [(.tmp 3)], none⟩,
 ⟨(some 6), .call 40 [(.tmp 4), (.tmp 5)], none⟩])
 (.seq
 (.ops [
 ⟨(some 7), .load 1 false (.tmp 3), none⟩,
 ⟨(some 2), .move (.tmp 7), none⟩])
 .ret))))⟩
theorem t23_ok : goodFn Try.prog 23 = true ∧ cfn Try.prog 23 = t23 := ⟨by kernel_rfl, by kernel_rfl⟩

/-- (*matchguard/trie.Trie).Nodes -/
def t24 : NFn := ⟨8, [(.tmp 2)],
 (.seq
 (.ops [
 ⟨(some 2), .move (.const (.int .i64 0)), none⟩])
 (.seq
 (.ops [
 ⟨(some 3), .alloc [(.int .i64 0)], none⟩,
 ⟨none, .store 1 (.tmp 3) (.const (.int .i64 0)), none⟩])
 (.seq
 (.ops [
 ⟨(some 4), .move (.tmp 0), none⟩,
 ⟨(some 5), .mkfunc (.func 42) [] [(.tmp 3)], none⟩,
 ⟨(some 6), .call 40 [(.tmp 4), (.tmp 5)], none⟩])
 (.seq
 (.ops [
 ⟨(some 7), .load 1 false (.tmp 3), none⟩,
 ⟨(some 2), .move (.tmp 7), none⟩])
 .ret))))⟩
theorem t24_ok : goodFn Try.prog 24 = true ∧ cfn Try.prog 24 = t24 := ⟨by kernel_rfl, by kernel_rfl⟩

/-- (*matchguard/matchguardref12.Trie).Nodes -/
def t25 : NFn := ⟨59, [(.tmp 2)],
 (.seq
 (.ops [
 ⟨(some 2), .move (.const (.int .i64 0)), none⟩])
 (.seq
 (.ops [
 ⟨(some 3), .move (.const (.slice none 0 (.fix 0))), none⟩])
 (.seq
 (.seq
 (.ops [
 ⟨(some 11), .move (.tmp 0), none⟩,
 ⟨(some 12), .nilCheck (.tmp 11), none⟩,
 ⟨(some 13), .off (.tmp 12) 1, none⟩,
 ⟨(some 14), .load 1 false (.tmp 13), none⟩,
 ⟨(some 15), .lenSl (.tmp 14), none⟩,
 ⟨(some 16), .move (.const (.int .i64 0)), none⟩])
 (.block 0
 (.loop
 (.seq
 (.ops [
 ⟨(some 17), .bin .lss (.tmp 16) (.tmp 15), none⟩])
 (.seq
 (.cond (.tmp 17)
 .skip
 (.exit 0))
 (.seq
 (.block 1
 (.seq
 (.ops [
 ⟨(some 18), .idxSl (.tmp 14) (.tmp 16) 4, none⟩,
 ⟨(some 19), .load 4 true (.tmp 18), none⟩,
 ⟨(some 5), .alloc [(.int .u64 0), (.int .u64 0), (.int .i64 0), (.int .i64 0)], none⟩,
 ⟨none, .store 4 (.tmp 5) (.tmp 19), none⟩])
 (.seq
 (.ops [
 ⟨(some 6), .move (.const (.int .i64 0)), none⟩])
 (.block 2
 (.loop
 (.seq
 (.seq
 (.ops [
 ⟨(some 20), .move (.tmp 6), none⟩,
 ⟨(some 21), .off (.tmp 5) 2, none⟩,
 ⟨(some 22), .load 1 false (.tmp 21), none⟩,
 ⟨(some 23), .bin .leq (.tmp 20) (.tmp 22), none⟩])
 (.cond (.tmp 23)
 .skip
 (.exit 2)))
 (.seq
 (.block 3
 (.seq
 (.draw 1 [
 ⟨0, ⟨(some 26), .off (.tmp 5) 0, none⟩, [], 0⟩,
 ⟨1, ⟨(some 27), .load 2 true (.tmp 26), none⟩, [0], 0⟩,
 ⟨2, ⟨(some 28), .move (.tmp 0), none⟩, [], 0⟩,
 ⟨3, ⟨(some 29), .nilCheck (.tmp 28), none⟩, [2], 0⟩,
 ⟨4, ⟨(some 30), .off (.tmp 29) 0, none⟩, [3, 2], 0⟩,
 ⟨5, ⟨(some 31), .load 1 false (.tmp 30), none⟩, [4, 3, 2], 0⟩,
 ⟨6, ⟨(some 32), .move (.tmp 6), none⟩, [], 0⟩,
 ⟨7, ⟨(some 33), .call 28 [(.tmp 31), (.tmp 32)], none⟩, [5, 4, 3, 2, 6], 0⟩,
 ⟨8, ⟨(some 34), .call 27 [(.tmp 27), (.tmp 33)], none⟩, [1, 0, 7, 5, 4, 3, 2, 6], 0⟩,
 ⟨9, ⟨(some 35), .move (.tmp 6), none⟩, [], 0⟩,
 ⟨10, ⟨(some 36), .build [(.int .u64 0), (.int .u64 0), (.int .i64 0), (.int .i64 0)] [(0, 2, (.tmp 34)), (2, 1, (.tmp 35))], none⟩, [8, 1, 0, 7, 5, 4, 3, 2, 6, 9], 0⟩,
 ⟨11, ⟨(some 7), .alloc [(.int .u64 0), (.int .u64 0), (.int .i64 0), (.int .i64 0)], none⟩, [], 0⟩,
 ⟨12, ⟨none, .store 4 (.tmp 7) (.tmp 36), none⟩, [11, 10, 8, 1, 0, 7, 5, 4, 3, 2, 6, 9], 1⟩])
 (.seq
 (.ops [
 ⟨(some 8), .move (.const (.bool false)), none⟩])
 (.seq
 (.seq
 (.ops [
 ⟨(some 37), .move (.tmp 3), none⟩,
 ⟨(some 38), .lenSl (.tmp 37), none⟩,
 ⟨(some 39), .move (.const (.int .i64 0)), none⟩])
 (.block 4
 (.loop
 (.seq
 (.ops [
 ⟨(some 40), .bin .lss (.tmp 39) (.tmp 38), none⟩])
 (.seq
 (.cond (.tmp 40)
 .skip
 (.exit 4))
 (.seq
 (.block 5
 (.seq
 (.ops [
 ⟨(some 41), .idxSl (.tmp 37) (.tmp 39) 4, none⟩,
 ⟨(some 42), .load 4 true (.tmp 41), none⟩,
 ⟨(some 10), .alloc [(.int .u64 0), (.int .u64 0), (.int .i64 0), (.int .i64 0)], none⟩,
 ⟨none, .store 4 (.tmp 10) (.tmp 42), none⟩])
 (.ops [
 ⟨(some 43), .move (.tmp 8), none⟩,
 ⟨(some 44), .move (.tmp 43), none⟩,
 ⟨(some 45), .load 4 true (.tmp 10), (some (44, false))⟩,
 ⟨(some 46), .load 4 true (.tmp 7), (some (44, false))⟩,
 ⟨(some 47), .eq false true [.int, .int, .int, .int] (.tmp 45) (.tmp 46), (some (44, false))⟩,
 ⟨(some 48), .pick (.tmp 44) (.const (.bool true)) (.tmp 47), none⟩,
 ⟨(some 8), .move (.tmp 48), none⟩])))
 (.ops [
 ⟨(some 49), .bin .add (.tmp 39) (.const (.int .i64 1)), none⟩,
 ⟨(some 39), .move (.tmp 49), none⟩])))))))
 (.seq
 (.ops [
 ⟨(some 50), .move (.tmp 8), none⟩,
 ⟨(some 51), .un .not (.tmp 50), none⟩])
 (.cond (.tmp 51)
 (.ops [
 ⟨(some 52), .move (.tmp 3), none⟩,
 ⟨(some 53), .load 4 true (.tmp 7), none⟩,
 ⟨(some 54), .bslice 1 [(.int .u64 0), (.int .u64 0), (.int .i64 0), (.int .i64 0)] [(0, 4, (.tmp 53))], none⟩,
 ⟨(some 55), .append 4 32 (.tmp 52) (.tmp 54), none⟩,
 ⟨(some 3), .move (.tmp 55), none⟩])
 .skip))))))
 (.ops [
 ⟨(some 24), .move (.tmp 6), none⟩,
 ⟨(some 25), .bin .add (.tmp 24) (.const (.int .i64 1)), none⟩,
 ⟨(some 6), .move (.tmp 25), none⟩]))))))))
 (.ops [
 ⟨(some 56), .bin .add (.tmp 16) (.const (.int .i64 1)), none⟩,
 ⟨(some 16), .move (.tmp 56), none⟩])))))))
 (.seq
 (.ops [
 ⟨(some 57), .move (.tmp 3), none⟩,
 ⟨(some 58), .lenSl (.tmp 57), none⟩,
 ⟨(some 2), .move (.tmp 58), none⟩])
 .ret))))⟩
theorem t25_ok : goodFn Try.prog 25 = true ∧ cfn Try.prog 25 = t25 := ⟨by kernel_rfl, by kernel_rfl⟩

/-- matchguard/matchguardcase.Mod -/
def t26 : NFn := ⟨14, [(.tmp 4)],
 (.seq
 (.ops [
 ⟨(some 4), .move (.const (.int .i64 0)), none⟩])
 (.seq
 (.seq
 (.ops [
 ⟨(some 5), .move (.tmp 1), none⟩,
 ⟨(some 6), .bin .lss (.tmp 5) (.const (.int .i64 1)), none⟩])
 (.cond (.tmp 6)
 (.seq
 (.ops [
 ⟨(some 4), .move (.const (.int .i64 0)), none⟩])
 .ret)
 .skip))
 (.seq
 (.ops [
 ⟨(some 7), .move (.tmp 0), none⟩,
 ⟨(some 8), .move (.tmp 1), none⟩,
 ⟨(some 9), .bin .rem (.tmp 7) (.tmp 8), none⟩,
 ⟨(some 10), .move (.tmp 1), none⟩,
 ⟨(some 11), .bin .add (.tmp 9) (.tmp 10), none⟩,
 ⟨(some 12), .move (.tmp 1), none⟩,
 ⟨(some 13), .bin .rem (.tmp 11) (.tmp 12), none⟩,
 ⟨(some 4), .move (.tmp 13), none⟩])
 .ret)))⟩
theorem t26_ok : goodFn Try.prog 26 = true ∧ cfn Try.prog 26 = t26 := ⟨by kernel_rfl, by kernel_rfl⟩

/-- matchguard/matchguardref01.And -/
def t27 : NFn := ⟨28, [(.cell 4 2 true)],
 (.seq
 (.ops [
 ⟨(some 2), .box (.tmp 0), none⟩,
 ⟨(some 3), .box (.tmp 1), none⟩,
 ⟨(some 4), .alloc [(.int .u64 0), (.int .u64 0)], none⟩])
 (.seq
 (.draw 2 [
 ⟨0, ⟨(some 8), .load 2 true (.tmp 2), none⟩, [], 0⟩,
 ⟨1, ⟨(some 9), .call 34 [(.tmp 8)], none⟩, [0], 0⟩,
 ⟨2, ⟨(some 10), .load 2 true (.tmp 3), none⟩, [], 0⟩,
 ⟨3, ⟨(some 11), .call 34 [(.tmp 10)], none⟩, [2, 1, 0], 0⟩,
 ⟨4, ⟨(some 5), .alloc (fill 128 (.bool false)), none⟩, [], 0⟩,
 ⟨5, ⟨(some 6), .alloc (fill 128 (.bool false)), none⟩, [], 1⟩,
 ⟨6, ⟨none, .store 128 (.tmp 5) (.tmp 9), none⟩, [4, 1, 0, 3, 2, 5], 2⟩,
 ⟨7, ⟨none, .store 128 (.tmp 6) (.tmp 11), none⟩, [5, 3, 2, 1, 0, 6, 4], 2⟩])
 (.seq
 (.seq
 (.ops [
 ⟨(some 12), .move (.const (.int .i64 0)), none⟩])
 (.block 0
 (.loop
 (.seq
 (.ops [
 ⟨(some 13), .bin .lss (.tmp 12) (.const (.int .i64 128)), none⟩])
 (.seq
 (.cond (.tmp 13)
 .skip
 (.exit 0))
 (.seq
 (.block 1
 (.seq
 (.ops [
 ⟨(some 14), .move (.tmp 12), none⟩,
 ⟨(some 7), .move (.tmp 14), none⟩])
 (.ops [
 ⟨(some 15), .move (.tmp 7), none⟩,
 ⟨(some 16), .move (.tmp 7), none⟩,
 ⟨(some 17), .idxArr (.tmp 5) (.tmp 16) 128 1, none⟩,
 ⟨(some 18), .load 1 false (.tmp 17), none⟩,
 ⟨(some 19), .move (.tmp 18), none⟩,
 ⟨(some 20), .move (.tmp 7), (some (19, true))⟩,
 ⟨(some 21), .idxArr (.tmp 6) (.tmp 20) 128 1, (some (19, true))⟩,
 ⟨(some 22), .load 1 false (.tmp 21), (some (19, true))⟩,
 ⟨(some 23), .pick (.tmp 19) (.tmp 22) (.const (.bool false)), none⟩,
 ⟨(some 24), .idxArr (.tmp 5) (.tmp 15) 128 1, none⟩,
 ⟨none, .store 1 (.tmp 24) (.tmp 23), none⟩])))
 (.ops [
 ⟨(some 25), .bin .add (.tmp 12) (.const (.int .i64 1)), none⟩,
 ⟨(some 12), .move (.tmp 25), none⟩])))))))
 (.seq
 (.ops [
 ⟨(some 26), .load 128 true (.tmp 5), none⟩,
 ⟨(some 27), .call 35 [(.tmp 26)], none⟩,
 ⟨none, .store 2 (.tmp 4) (.tmp 27), none⟩])
 .ret))))⟩
theorem t27_ok : goodFn Try.prog 27 = true ∧ cfn Try.prog 27 = t27 := ⟨by kernel_rfl, by kernel_rfl⟩

/-- matchguard/matchguardref01.Leading -/
def t28 : NFn := ⟨25, [(.cell 4 2 true)],
 (.seq
 (.ops [
 ⟨(some 4), .alloc [(.int .u64 0), (.int .u64 0)], none⟩])
 (.seq
 (.ops [
 ⟨(some 5), .alloc (fill 128 (.bool false)), none⟩])
 (.seq
 (.ops [
 ⟨(some 7), .move (.tmp 0), none⟩,
 ⟨(some 8), .call 43 [(.tmp 7)], none⟩,
 ⟨(some 0), .move (.tmp 8), none⟩])
 (.seq
 (.ops [
 ⟨(some 9), .move (.tmp 1), none⟩,
 ⟨(some 10), .move (.tmp 0), none⟩,
 ⟨(some 11), .minmax false [(.tmp 9), (.tmp 10)], none⟩,
 ⟨(some 12), .minmax true [(.const (.int .i64 0)), (.tmp 11)], none⟩,
 ⟨(some 1), .move (.tmp 12), none⟩])
 (.seq
 (.seq
 (.ops [
 ⟨(some 13), .move (.tmp 0), none⟩,
 ⟨(some 14), .move (.tmp 1), none⟩,
 ⟨(some 15), .bin .sub (.tmp 13) (.tmp 14), none⟩,
 ⟨(some 6), .move (.tmp 15), none⟩])
 (.block 0
 (.loop
 (.seq
 (.seq
 (.ops [
 ⟨(some 16), .move (.tmp 6), none⟩,
 ⟨(some 17), .move (.tmp 0), none⟩,
 ⟨(some 18), .bin .lss (.tmp 16) (.tmp 17), none⟩])
 (.cond (.tmp 18)
 .skip
 (.exit 0)))
 (.seq
 (.block 1
 (.ops [
 ⟨(some 21), .move (.tmp 6), none⟩,
 ⟨(some 22), .idxArr (.tmp 5) (.tmp 21) 128 1, none⟩,
 ⟨none, .store 1 (.tmp 22) (.const (.bool true)), none⟩]))
 (.ops [
 ⟨(some 19), .move (.tmp 6), none⟩,
 ⟨(some 20), .bin .add (.tmp 19) (.const (.int .i64 1)), none⟩,
 ⟨(some 6), .move (.tmp 20), none⟩]))))))
 (.seq
 (.ops [
 ⟨(some 23), .load 128 true (.tmp 5), none⟩,
 ⟨(some 24), .call 35 [(.tmp 23)], none⟩,
 ⟨none, .store 2 (.tmp 4) (.tmp 24), none⟩])
 .ret))))))⟩
theorem t28_ok : goodFn Try.prog 28 = true ∧ cfn Try.prog 28 = t28 := ⟨by kernel_rfl, by kernel_rfl⟩

/-- (*matchguard/trie.Trie).prefix -/
def t29 : NFn := ⟨33, [(.tmp 6)],
 (.seq
 (.ops [
 ⟨(some 4), .box (.tmp 1), none⟩,
 ⟨(some 6), .move (.const (.bool false)), none⟩])
 (.seq
 (.draw 0 [
 ⟨0, ⟨(some 7), .move (.tmp 0), none⟩, [], 0⟩,
 ⟨1, ⟨(some 8), .eq true false [.ptr] (.tmp 7) (.const (.ptr none)), none⟩, [0], 0⟩,
 ⟨2, ⟨(some 9), .move (.tmp 8), none⟩, [1, 0], 0⟩,
 ⟨3, ⟨(some 10), .move (.tmp 2), (some (9, true))⟩, [2, 1, 0], 0⟩,
 ⟨4, ⟨(some 11), .bin .geq (.tmp 10) (.const (.int .i64 0)), (some (9, true))⟩, [3, 2, 1, 0], 0⟩,
 ⟨5, ⟨(some 12), .pick (.tmp 9) (.tmp 11) (.const (.bool false)), none⟩, [2, 1, 0, 4, 3], 0⟩,
 ⟨6, ⟨(some 13), .move (.tmp 12), none⟩, [5, 2, 1, 0, 4, 3], 0⟩,
 ⟨7, ⟨(some 14), .move (.tmp 2), (some (13, true))⟩, [6, 5, 2, 1, 0, 4, 3], 0⟩,
 ⟨8, ⟨(some 15), .move (.tmp 0), (some (13, true))⟩, [6, 5, 2, 1, 0, 4, 3], 0⟩,
 ⟨9, ⟨(some 16), .nilCheck (.tmp 15), (some (13, true))⟩, [8, 6, 5, 2, 1, 0, 4, 3], 0⟩,
 ⟨10, ⟨(some 17), .off (.tmp 16) 0, (some (13, true))⟩, [9, 8, 6, 5, 2, 1, 0, 4, 3], 0⟩,
 ⟨11, ⟨(some 18), .load 1 false (.tmp 17), (some (13, true))⟩, [10, 9, 8, 6, 5, 2, 1, 0, 4, 3], 0⟩,
 ⟨12, ⟨(some 19), .bin .leq (.tmp 14) (.tmp 18), (some (13, true))⟩, [7, 6, 5, 2, 1, 0, 4, 3, 11, 10, 9, 8], 0⟩,
 ⟨13, ⟨(some 20), .pick (.tmp 13) (.tmp 19) (.const (.bool false)), none⟩, [6, 5, 2, 1, 0, 4, 3, 12, 7, 11, 10, 9, 8], 0⟩,
 ⟨14, ⟨(some 21), .move (.tmp 20), none⟩, [13, 6, 5, 2, 1, 0, 4, 3, 12, 7, 11, 10, 9, 8], 0⟩,
 ⟨15, ⟨(some 22), .load 2 true (.tmp 4), (some (21, true))⟩, [14, 13, 6, 5, 2, 1, 0, 4, 3, 12, 7, 11, 10, 9, 8], 0⟩,
 ⟨16, ⟨(some 23), .move (.tmp 0), (some (21, true))⟩, [14, 13, 6, 5, 2, 1, 0, 4, 3, 12, 7, 11, 10, 9, 8], 0⟩,
 ⟨17, ⟨(some 24), .nilCheck (.tmp 23), (some (21, true))⟩, [16, 14, 13, 6, 5, 2, 1, 0, 4, 3, 12, 7, 11, 10, 9, 8], 0⟩,
 ⟨18, ⟨(some 25), .off (.tmp 24) 0, (some (21, true))⟩, [17, 16, 14, 13, 6, 5, 2, 1, 0, 4, 3, 12, 7, 11, 10, 9, 8], 0⟩,
 ⟨19, ⟨(some 26), .load 1 false (.tmp 25), (some (21, true))⟩, [18, 17, 16, 14, 13, 6, 5, 2, 1, 0, 4, 3, 12, 7, 11, 10, 9, 8], 0⟩,
 ⟨20, ⟨(some 27), .move (.tmp 2), (some (21, true))⟩, [14, 13, 6, 5, 2, 1, 0, 4, 3, 12, 7, 11, 10, 9, 8], 0⟩,
 ⟨21, ⟨(some 28), .call 45 [(.tmp 26), (.tmp 27)], (some (21, true))⟩, [19, 18, 17, 16, 14, 13, 6, 5, 2, 1, 0, 4, 3, 12, 7, 11, 10, 9, 8, 20], 0⟩,
 ⟨22, ⟨(some 29), .call 44 [(.tmp 22), (.tmp 28)], (some (21, true))⟩, [15, 14, 13, 6, 5, 2, 1, 0, 4, 3, 12, 7, 11, 10, 9, 8, 21, 19, 18, 17, 16, 20], 0⟩,
 ⟨23, ⟨(some 30), .load 2 true (.tmp 4), (some (21, true))⟩, [14, 13, 6, 5, 2, 1, 0, 4, 3, 12, 7, 11, 10, 9, 8], 0⟩,
 ⟨24, ⟨(some 31), .eq false true [.int, .int] (.tmp 29) (.tmp 30), (some (21, true))⟩, [22, 15, 14, 13, 6, 5, 2, 1, 0, 4, 3, 12, 7, 11, 10, 9, 8, 21, 19, 18, 17, 16, 20, 23], 0⟩,
 ⟨25, ⟨(some 32), .pick (.tmp 21) (.tmp 31) (.const (.bool false)), none⟩, [14, 13, 6, 5, 2, 1, 0, 4, 3, 12, 7, 11, 10, 9, 8, 24, 22, 15, 21, 19, 18, 17, 16, 20, 23], 0⟩,
 ⟨26, ⟨(some 6), .move (.tmp 32), none⟩, [25, 14, 13, 6, 5, 2, 1, 0, 4, 3, 12, 7, 11, 10, 9, 8, 24, 22, 15, 21, 19, 18, 17, 16, 20, 23], 0⟩])
 .ret))⟩
theorem t29_ok : goodFn Try.prog 29 = true ∧ cfn Try.prog 29 = t29 := ⟨by kernel_rfl, by kernel_rfl⟩

/-- (*matchguard/trie.Trie).find -/
def t30 : NFn := ⟨32, [(.cell 6 1 false)],
 (.seq
 (.ops [
 ⟨(some 4), .box (.tmp 1), none⟩,
 ⟨(some 6), .alloc [(.ptr none)], none⟩])
 (.seq
 (.seq
 (.ops [
 ⟨(some 9), .move (.tmp 0), none⟩,
 ⟨(some 10), .load 2 true (.tmp 4), none⟩,
 ⟨(some 11), .move (.tmp 2), none⟩,
 ⟨(some 12), .call 29 [(.tmp 9), (.tmp 10), (.tmp 11)], none⟩,
 ⟨(some 13), .un .not (.tmp 12), none⟩])
 (.cond (.tmp 13)
 (.seq
 (.ops [
 ⟨none, .store 1 (.tmp 6) (.const (.ptr none)), none⟩])
 .ret)
 .skip))
 (.seq
 (.ops [
 ⟨(some 14), .move (.tmp 0), none⟩,
 ⟨(some 15), .nilCheck (.tmp 14), none⟩,
 ⟨(some 16), .off (.tmp 15) 1, none⟩,
 ⟨(some 17), .load 1 false (.tmp 16), none⟩,
 ⟨(some 7), .alloc [(.ptr none)], none⟩,
 ⟨none, .store 1 (.tmp 7) (.tmp 17), none⟩])
 (.seq
 (.seq
 (.ops [
 ⟨(some 18), .move (.tmp 0), none⟩,
 ⟨(some 19), .load 2 true (.tmp 4), none⟩,
 ⟨(some 20), .move (.tmp 2), none⟩,
 ⟨(some 21), .call 31 [(.tmp 18), (.tmp 19), (.tmp 20)], none⟩])
 (.block 0
 (.rangeF (.tmp 21) 22
 (.ops [
 ⟨(some 8), .move (.tmp 22), none⟩])
 (.block 1
 (.seq
 (.seq
 (.ops [
 ⟨(some 23), .load 1 false (.tmp 7), none⟩,
 ⟨(some 24), .eq false false [.ptr] (.tmp 23) (.const (.ptr none)), none⟩])
 (.cond (.tmp 24)
 (.seq
 (.ops [
 ⟨none, .store 1 (.tmp 6) (.const (.ptr none)), none⟩])
 .ret)
 .skip))
 (.ops [
 ⟨(some 25), .load 1 false (.tmp 7), none⟩,
 ⟨(some 26), .move (.tmp 8), none⟩,
 ⟨(some 27), .nilCheck (.tmp 25), none⟩,
 ⟨(some 28), .off (.tmp 27) 0, none⟩,
 ⟨(some 29), .idxArr (.tmp 28) (.tmp 26) 2 1, none⟩,
 ⟨(some 30), .load 1 false (.tmp 29), none⟩,
 ⟨none, .store 1 (.tmp 7) (.tmp 30), none⟩]))))))
 (.seq
 (.ops [
 ⟨(some 31), .load 1 false (.tmp 7), none⟩,
 ⟨none, .store 1 (.tmp 6) (.tmp 31), none⟩])
 .ret)))))⟩
theorem t30_ok : goodFn Try.prog 30 = true ∧ cfn Try.prog 30 = t30 := ⟨by kernel_rfl, by kernel_rfl⟩

/-- (*matchguard/trie.Trie).path -/
def t31 : NFn := ⟨8, [(.tmp 6)],
 (.seq
 (.ops [
 ⟨(some 3), .box (.tmp 0), none⟩,
 ⟨(some 4), .box (.tmp 1), none⟩,
 ⟨(some 5), .box (.tmp 2), none⟩,
 ⟨(some 6), .move (.const .nilFunc), none⟩])
 (.seq
 (.ops [
 ⟨(some 7), .mkfunc (.func 46) [] [(.tmp 5), (.tmp 4), (.tmp 3)], none⟩,
 ⟨(some 6), .move (.tmp 7), none⟩])
 .ret))⟩
theorem t31_ok : goodFn Try.prog 31 = true ∧ cfn Try.prog 31 = t31 := ⟨by kernel_rfl, by kernel_rfl⟩

/-- (*matchguard/matchguardref12.Trie).place -/
def t32 : NFn := ⟨79, [(.tmp 6), (.tmp 7)],
 (.seq
 (.ops [
 ⟨(some 4), .box (.tmp 1), none⟩,
 ⟨(some 6), .move (.const (.int .i64 0)), none⟩,
 ⟨(some 7), .move (.const (.bool false)), none⟩])
 (.seq
 (.ops [
 ⟨(some 8), .move (.const (.int .i64 0)), none⟩])
 (.seq
 (.block 0
 (.loop
 (.seq
 (.seq
 (.ops [
 ⟨(some 10), .move (.tmp 8), none⟩,
 ⟨(some 11), .move (.tmp 0), none⟩,
 ⟨(some 12), .nilCheck (.tmp 11), none⟩,
 ⟨(some 13), .off (.tmp 12) 1, none⟩,
 ⟨(some 14), .load 1 false (.tmp 13), none⟩,
 ⟨(some 15), .lenSl (.tmp 14), none⟩,
 ⟨(some 16), .bin .lss (.tmp 10) (.tmp 15), none⟩])
 (.cond (.tmp 16)
 .skip
 (.exit 0)))
 (.block 1
 (.seq
 (.draw 0 [
 ⟨0, ⟨(some 17), .move (.tmp 0), none⟩, [], 0⟩,
 ⟨1, ⟨(some 18), .nilCheck (.tmp 17), none⟩, [0], 0⟩,
 ⟨2, ⟨(some 19), .off (.tmp 18) 1, none⟩, [1, 0], 0⟩,
 ⟨3, ⟨(some 20), .load 1 false (.tmp 19), none⟩, [2, 1, 0], 0⟩,
 ⟨4, ⟨(some 21), .move (.tmp 8), none⟩, [], 0⟩,
 ⟨5, ⟨(some 22), .idxSl (.tmp 20) (.tmp 21) 4, none⟩, [3, 2, 1, 0, 4], 0⟩,
 ⟨6, ⟨(some 23), .off (.tmp 22) 0, none⟩, [5, 3, 2, 1, 0, 4], 0⟩,
 ⟨7, ⟨(some 24), .load 2 true (.tmp 23), none⟩, [6, 5, 3, 2, 1, 0, 4], 0⟩,
 ⟨8, ⟨(some 25), .load 2 true (.tmp 4), none⟩, [], 0⟩,
 ⟨9, ⟨(some 26), .call 48 [(.tmp 24), (.tmp 25)], none⟩, [7, 6, 5, 3, 2, 1, 0, 4, 8], 0⟩,
 ⟨10, ⟨(some 9), .move (.tmp 26), none⟩, [9, 7, 6, 5, 3, 2, 1, 0, 4, 8], 0⟩])
 (.seq
 (.seq
 (.ops [
 ⟨(some 27), .move (.tmp 9), none⟩,
 ⟨(some 28), .bin .gtr (.tmp 27) (.const (.int .i64 0)), none⟩,
 ⟨(some 29), .move (.tmp 28), none⟩,
 ⟨(some 30), .move (.tmp 9), (some (29, false))⟩,
 ⟨(some 31), .bin .eql (.tmp 30) (.const (.int .i64 0)), (some (29, false))⟩,
 ⟨(some 32), .move (.tmp 31), (some (29, false))⟩,
 ⟨(some 33), .move (.tmp 0), (some (32, true))⟩,
 ⟨(some 34), .nilCheck (.tmp 33), (some (32, true))⟩,
 ⟨(some 35), .off (.tmp 34) 1, (some (32, true))⟩,
 ⟨(some 36), .load 1 false (.tmp 35), (some (32, true))⟩,
 ⟨(some 37), .move (.tmp 8), (some (32, true))⟩,
 ⟨(some 38), .idxSl (.tmp 36) (.tmp 37) 4, (some (32, true))⟩,
 ⟨(some 39), .off (.tmp 38) 2, (some (32, true))⟩,
 ⟨(some 40), .load 1 false (.tmp 39), (some (32, true))⟩,
 ⟨(some 41), .move (.tmp 2), (some (32, true))⟩,
 ⟨(some 42), .bin .geq (.tmp 40) (.tmp 41), (some (32, true))⟩,
 ⟨(some 43), .pick (.tmp 32) (.tmp 42) (.const (.bool false)), (some (29, false))⟩,
 ⟨(some 44), .pick (.tmp 29) (.const (.bool true)) (.tmp 43), none⟩])
 (.cond (.tmp 44)
 (.exit 0)
 .skip))
 (.ops [
 ⟨(some 45), .move (.tmp 8), none⟩,
 ⟨(some 46), .bin .add (.tmp 45) (.const (.int .i64 1)), none⟩,
 ⟨(some 8), .move (.tmp 46), none⟩])))))))
 (.seq
 (.draw 0 [
 ⟨0, ⟨(some 47), .move (.tmp 8), none⟩, [], 0⟩,
 ⟨1, ⟨(some 48), .move (.tmp 8), none⟩, [], 0⟩,
 ⟨2, ⟨(some 49), .move (.tmp 0), none⟩, [], 0⟩,
 ⟨3, ⟨(some 50), .nilCheck (.tmp 49), none⟩, [2], 0⟩,
 ⟨4, ⟨(some 51), .off (.tmp 50) 1, none⟩, [3, 2], 0⟩,
 ⟨5, ⟨(some 52), .load 1 false (.tmp 51), none⟩, [4, 3, 2], 0⟩,
 ⟨6, ⟨(some 53), .lenSl (.tmp 52), none⟩, [5, 4, 3, 2], 0⟩,
 ⟨7, ⟨(some 54), .bin .lss (.tmp 48) (.tmp 53), none⟩, [1, 6, 5, 4, 3, 2], 0⟩,
 ⟨8, ⟨(some 55), .move (.tmp 54), none⟩, [7, 1, 6, 5, 4, 3, 2], 0⟩,
 ⟨9, ⟨(some 56), .move (.tmp 0), (some (55, true))⟩, [8, 7, 1, 6, 5, 4, 3, 2], 0⟩,
 ⟨10, ⟨(some 57), .nilCheck (.tmp 56), (some (55, true))⟩, [9, 8, 7, 1, 6, 5, 4, 3, 2], 0⟩,
 ⟨11, ⟨(some 58), .off (.tmp 57) 1, (some (55, true))⟩, [10, 9, 8, 7, 1, 6, 5, 4, 3, 2], 0⟩,
 ⟨12, ⟨(some 59), .load 1 false (.tmp 58), (some (55, true))⟩, [11, 10, 9, 8, 7, 1, 6, 5, 4, 3, 2], 0⟩,
 ⟨13, ⟨(some 60), .move (.tmp 8), (some (55, true))⟩, [8, 7, 1, 6, 5, 4, 3, 2], 0⟩,
 ⟨14, ⟨(some 61), .idxSl (.tmp 59) (.tmp 60) 4, (some (55, true))⟩, [12, 11, 10, 9, 8, 7, 1, 6, 5, 4, 3, 2, 13], 0⟩,
 ⟨15, ⟨(some 62), .off (.tmp 61) 0, (some (55, true))⟩, [14, 12, 11, 10, 9, 8, 7, 1, 6, 5, 4, 3, 2, 13], 0⟩,
 ⟨16, ⟨(some 63), .load 2 true (.tmp 62), (some (55, true))⟩, [15, 14, 12, 11, 10, 9, 8, 7, 1, 6, 5, 4, 3, 2, 13], 0⟩,
 ⟨17, ⟨(some 64), .load 2 true (.tmp 4), (some (55, true))⟩, [8, 7, 1, 6, 5, 4, 3, 2], 0⟩,
 ⟨18, ⟨(some 65), .eq false true [.int, .int] (.tmp 63) (.tmp 64), (some (55, true))⟩, [16, 15, 14, 12, 11, 10, 9, 8, 7, 1, 6, 5, 4, 3, 2, 13, 17], 0⟩,
 ⟨19, ⟨(some 66), .pick (.tmp 55) (.tmp 65) (.const (.bool false)), none⟩, [8, 7, 1, 6, 5, 4, 3, 2, 18, 16, 15, 14, 12, 11, 10, 9, 13, 17], 0⟩,
 ⟨20, ⟨(some 67), .move (.tmp 66), none⟩, [19, 8, 7, 1, 6, 5, 4, 3, 2, 18, 16, 15, 14, 12, 11, 10, 9, 13, 17], 0⟩,
 ⟨21, ⟨(some 68), .move (.tmp 0), (some (67, true))⟩, [20, 19, 8, 7, 1, 6, 5, 4, 3, 2, 18, 16, 15, 14, 12, 11, 10, 9, 13, 17], 0⟩,
 ⟨22, ⟨(some 69), .nilCheck (.tmp 68), (some (67, true))⟩, [21, 20, 19, 8, 7, 1, 6, 5, 4, 3, 2, 18, 16, 15, 14, 12, 11, 10, 9, 13, 17], 0⟩,
 ⟨23, ⟨(some 70), .off (.tmp 69) 1, (some (67, true))⟩, [22, 21, 20, 19, 8, 7, 1, 6, 5, 4, 3, 2, 18, 16, 15, 14, 12, 11, 10, 9, 13, 17], 0⟩,
 ⟨24, ⟨(some 71), .load 1 false (.tmp 70), (some (67, true))⟩, [23, 22, 21, 20, 19, 8, 7, 1, 6, 5, 4, 3, 2, 18, 16, 15, 14, 12, 11, 10, 9, 13, 17], 0⟩,
 ⟨25, ⟨(some 72), .move (.tmp 8), (some (67, true))⟩, [20, 19, 8, 7, 1, 6, 5, 4, 3, 2, 18, 16, 15, 14, 12, 11, 10, 9, 13, 17], 0⟩,
 ⟨26, ⟨(some 73), .idxSl (.tmp 71) (.tmp 72) 4, (some (67, true))⟩, [24, 23, 22, 21, 20, 19, 8, 7, 1, 6, 5, 4, 3, 2, 18, 16, 15, 14, 12, 11, 10, 9, 13, 17, 25], 0⟩,
 ⟨27, ⟨(some 74), .off (.tmp 73) 2, (some (67, true))⟩, [26, 24, 23, 22, 21, 20, 19, 8, 7, 1, 6, 5, 4, 3, 2, 18, 16, 15, 14, 12, 11, 10, 9, 13, 17, 25], 0⟩,
 ⟨28, ⟨(some 75), .load 1 false (.tmp 74), (some (67, true))⟩, [27, 26, 24, 23, 22, 21, 20, 19, 8, 7, 1, 6, 5, 4, 3, 2, 18, 16, 15, 14, 12, 11, 10, 9, 13, 17, 25], 0⟩,
 ⟨29, ⟨(some 76), .move (.tmp 2), (some (67, true))⟩, [20, 19, 8, 7, 1, 6, 5, 4, 3, 2, 18, 16, 15, 14, 12, 11, 10, 9, 13, 17], 0⟩,
 ⟨30, ⟨(some 77), .bin .eql (.tmp 75) (.tmp 76), (some (67, true))⟩, [28, 27, 26, 24, 23, 22, 21, 20, 19, 8, 7, 1, 6, 5, 4, 3, 2, 18, 16, 15, 14, 12, 11, 10, 9, 13, 17, 25, 29], 0⟩,
 ⟨31, ⟨(some 78), .pick (.tmp 67) (.tmp 77) (.const (.bool false)), none⟩, [20, 19, 8, 7, 1, 6, 5, 4, 3, 2, 18, 16, 15, 14, 12, 11, 10, 9, 13, 17, 30, 28, 27, 26, 24, 23, 22, 21, 25, 29], 0⟩,
 ⟨32, ⟨(some 6), .move (.tmp 47), none⟩, [0, 20, 19, 8, 7, 1, 6, 5, 4, 3, 2, 18, 16, 15, 14, 12, 11, 10, 9, 13, 17], 0⟩,
 ⟨33, ⟨(some 7), .move (.tmp 78), none⟩, [31, 20, 19, 8, 7, 1, 6, 5, 4, 3, 2, 18, 16, 15, 14, 12, 11, 10, 9, 13, 17, 30, 28, 27, 26, 24, 23, 22, 21, 25, 29, 32, 0], 0⟩])
 .ret))))⟩
theorem t32_ok : goodFn Try.prog 32 = true ∧ cfn Try.prog 32 = t32 := ⟨by kernel_rfl, by kernel_rfl⟩

/-- (*matchguard/matchguardref12.Trie).prefix -/
def t33 : NFn := ⟨29, [(.tmp 6)],
 (.seq
 (.ops [
 ⟨(some 4), .box (.tmp 1), none⟩,
 ⟨(some 6), .move (.const (.bool false)), none⟩])
 (.seq
 (.draw 0 [
 ⟨0, ⟨(some 7), .move (.tmp 2), none⟩, [], 0⟩,
 ⟨1, ⟨(some 8), .bin .geq (.tmp 7) (.const (.int .i64 0)), none⟩, [0], 0⟩,
 ⟨2, ⟨(some 9), .move (.tmp 8), none⟩, [1, 0], 0⟩,
 ⟨3, ⟨(some 10), .move (.tmp 2), (some (9, true))⟩, [2, 1, 0], 0⟩,
 ⟨4, ⟨(some 11), .move (.tmp 0), (some (9, true))⟩, [2, 1, 0], 0⟩,
 ⟨5, ⟨(some 12), .nilCheck (.tmp 11), (some (9, true))⟩, [4, 2, 1, 0], 0⟩,
 ⟨6, ⟨(some 13), .off (.tmp 12) 0, (some (9, true))⟩, [5, 4, 2, 1, 0], 0⟩,
 ⟨7, ⟨(some 14), .load 1 false (.tmp 13), (some (9, true))⟩, [6, 5, 4, 2, 1, 0], 0⟩,
 ⟨8, ⟨(some 15), .bin .leq (.tmp 10) (.tmp 14), (some (9, true))⟩, [3, 2, 1, 0, 7, 6, 5, 4], 0⟩,
 ⟨9, ⟨(some 16), .pick (.tmp 9) (.tmp 15) (.const (.bool false)), none⟩, [2, 1, 0, 8, 3, 7, 6, 5, 4], 0⟩,
 ⟨10, ⟨(some 17), .move (.tmp 16), none⟩, [9, 2, 1, 0, 8, 3, 7, 6, 5, 4], 0⟩,
 ⟨11, ⟨(some 18), .load 2 true (.tmp 4), (some (17, true))⟩, [10, 9, 2, 1, 0, 8, 3, 7, 6, 5, 4], 0⟩,
 ⟨12, ⟨(some 19), .move (.tmp 0), (some (17, true))⟩, [10, 9, 2, 1, 0, 8, 3, 7, 6, 5, 4], 0⟩,
 ⟨13, ⟨(some 20), .nilCheck (.tmp 19), (some (17, true))⟩, [12, 10, 9, 2, 1, 0, 8, 3, 7, 6, 5, 4], 0⟩,
 ⟨14, ⟨(some 21), .off (.tmp 20) 0, (some (17, true))⟩, [13, 12, 10, 9, 2, 1, 0, 8, 3, 7, 6, 5, 4], 0⟩,
 ⟨15, ⟨(some 22), .load 1 false (.tmp 21), (some (17, true))⟩, [14, 13, 12, 10, 9, 2, 1, 0, 8, 3, 7, 6, 5, 4], 0⟩,
 ⟨16, ⟨(some 23), .move (.tmp 2), (some (17, true))⟩, [10, 9, 2, 1, 0, 8, 3, 7, 6, 5, 4], 0⟩,
 ⟨17, ⟨(some 24), .call 28 [(.tmp 22), (.tmp 23)], (some (17, true))⟩, [15, 14, 13, 12, 10, 9, 2, 1, 0, 8, 3, 7, 6, 5, 4, 16], 0⟩,
 ⟨18, ⟨(some 25), .call 27 [(.tmp 18), (.tmp 24)], (some (17, true))⟩, [11, 10, 9, 2, 1, 0, 8, 3, 7, 6, 5, 4, 17, 15, 14, 13, 12, 16], 0⟩,
 ⟨19, ⟨(some 26), .load 2 true (.tmp 4), (some (17, true))⟩, [10, 9, 2, 1, 0, 8, 3, 7, 6, 5, 4], 0⟩,
 ⟨20, ⟨(some 27), .eq false true [.int, .int] (.tmp 25) (.tmp 26), (some (17, true))⟩, [18, 11, 10, 9, 2, 1, 0, 8, 3, 7, 6, 5, 4, 17, 15, 14, 13, 12, 16, 19], 0⟩,
 ⟨21, ⟨(some 28), .pick (.tmp 17) (.tmp 27) (.const (.bool false)), none⟩, [10, 9, 2, 1, 0, 8, 3, 7, 6, 5, 4, 20, 18, 11, 17, 15, 14, 13, 12, 16, 19], 0⟩,
 ⟨22, ⟨(some 6), .move (.tmp 28), none⟩, [21, 10, 9, 2, 1, 0, 8, 3, 7, 6, 5, 4, 20, 18, 11, 17, 15, 14, 13, 12, 16, 19], 0⟩])
 .ret))⟩
theorem t33_ok : goodFn Try.prog 33 = true ∧ cfn Try.prog 33 = t33 := ⟨by kernel_rfl, by kernel_rfl⟩

/-- matchguard/matchguardref01.Read -/
def t34 : NFn := ⟨29, [(.cell 2 128 true)],
 (.seq
 (.ops [
 ⟨(some 1), .box (.tmp 0), none⟩,
 ⟨(some 2), .alloc (fill 128 (.bool false)), none⟩])
 (.seq
 (.ops [
 ⟨(some 3), .alloc (fill 128 (.bool false)), none⟩])
 (.seq
 (.seq
 (.ops [
 ⟨(some 4), .move (.const (.int .i64 0)), none⟩])
 (.block 0
 (.loop
 (.seq
 (.seq
 (.ops [
 ⟨(some 5), .move (.tmp 4), none⟩,
 ⟨(some 6), .bin .lss (.tmp 5) (.const (.int .i64 64)), none⟩])
 (.cond (.tmp 6)
 .skip
 (.exit 0)))
 (.seq
 (.block 1
 (.draw 0 [
 ⟨0, ⟨(some 9), .move (.tmp 4), none⟩, [], 0⟩,
 ⟨1, ⟨(some 10), .move (.tmp 4), none⟩, [], 0⟩,
 ⟨2, ⟨(some 11), .bin .add (.tmp 10) (.const (.int .i64 64)), none⟩, [1], 0⟩,
 ⟨3, ⟨(some 12), .off (.tmp 1) 1, none⟩, [], 0⟩,
 ⟨4, ⟨(some 13), .load 1 false (.tmp 12), none⟩, [3], 0⟩,
 ⟨5, ⟨(some 14), .move (.tmp 4), none⟩, [], 0⟩,
 ⟨6, ⟨(some 15), .conv .u64 (.tmp 14), none⟩, [5], 0⟩,
 ⟨7, ⟨(some 16), .bin .shr (.tmp 13) (.tmp 15), none⟩, [4, 3, 6, 5], 0⟩,
 ⟨8, ⟨(some 17), .bin .and (.tmp 16) (.const (.int .u64 1)), none⟩, [7, 4, 3, 6, 5], 0⟩,
 ⟨9, ⟨(some 18), .bin .eql (.tmp 17) (.const (.int .u64 1)), none⟩, [8, 7, 4, 3, 6, 5], 0⟩,
 ⟨10, ⟨(some 19), .off (.tmp 1) 0, none⟩, [], 0⟩,
 ⟨11, ⟨(some 20), .load 1 false (.tmp 19), none⟩, [10], 0⟩,
 ⟨12, ⟨(some 21), .move (.tmp 4), none⟩, [], 0⟩,
 ⟨13, ⟨(some 22), .conv .u64 (.tmp 21), none⟩, [12], 0⟩,
 ⟨14, ⟨(some 23), .bin .shr (.tmp 20) (.tmp 22), none⟩, [11, 10, 13, 12], 0⟩,
 ⟨15, ⟨(some 24), .bin .and (.tmp 23) (.const (.int .u64 1)), none⟩, [14, 11, 10, 13, 12], 0⟩,
 ⟨16, ⟨(some 25), .bin .eql (.tmp 24) (.const (.int .u64 1)), none⟩, [15, 14, 11, 10, 13, 12], 0⟩,
 ⟨17, ⟨(some 26), .idxArr (.tmp 3) (.tmp 9) 128 1, none⟩, [0, 3, 4, 5, 6, 7, 8, 9], 0⟩,
 ⟨18, ⟨none, .store 1 (.tmp 26) (.tmp 18), none⟩, [17, 0, 3, 4, 5, 6, 7, 8, 9], 0⟩,
 ⟨19, ⟨(some 27), .idxArr (.tmp 3) (.tmp 11) 128 1, none⟩, [2, 1, 0, 3, 4, 5, 6, 7, 8, 9, 10, 11, 12, 13, 14, 15, 16, 17, 18], 0⟩,
 ⟨20, ⟨none, .store 1 (.tmp 27) (.tmp 25), none⟩, [19, 2, 1, 0, 3, 4, 5, 6, 7, 8, 9, 10, 11, 12, 13, 14, 15, 16, 17, 18], 0⟩]))
 (.ops [
 ⟨(some 7), .move (.tmp 4), none⟩,
 ⟨(some 8), .bin .add (.tmp 7) (.const (.int .i64 1)), none⟩,
 ⟨(some 4), .move (.tmp 8), none⟩]))))))
 (.seq
 (.ops [
 ⟨(some 28), .load 128 true (.tmp 3), none⟩,
 ⟨none, .store 128 (.tmp 2) (.tmp 28), none⟩])
 .ret))))⟩
theorem t34_ok : goodFn Try.prog 34 = true ∧ cfn Try.prog 34 = t34 := ⟨by kernel_rfl, by kernel_rfl⟩

/-- matchguard/matchguardref01.Make -/
def t35 : NFn := ⟨31, [(.cell 2 2 true)],
 (.seq
 (.ops [
 ⟨(some 1), .box (.tmp 0), none⟩,
 ⟨(some 2), .alloc [(.int .u64 0), (.int .u64 0)], none⟩])
 (.seq
 (.ops [
 ⟨(some 3), .alloc [(.int .u64 0), (.int .u64 0)], none⟩])
 (.seq
 (.seq
 (.ops [
 ⟨(some 4), .move (.const (.int .i64 0)), none⟩])
 (.block 0
 (.loop
 (.seq
 (.seq
 (.ops [
 ⟨(some 5), .move (.tmp 4), none⟩,
 ⟨(some 6), .bin .lss (.tmp 5) (.const (.int .i64 64)), none⟩])
 (.cond (.tmp 6)
 .skip
 (.exit 0)))
 (.seq
 (.block 1
 (.seq
 (.seq
 (.ops [
 ⟨(some 9), .move (.tmp 4), none⟩,
 ⟨(some 10), .idxArr (.tmp 1) (.tmp 9) 128 1, none⟩,
 ⟨(some 11), .load 1 false (.tmp 10), none⟩])
 (.cond (.tmp 11)
 (.ops [
 ⟨(some 12), .off (.tmp 3) 1, none⟩,
 ⟨(some 13), .load 1 false (.tmp 12), none⟩,
 ⟨(some 14), .move (.tmp 4), none⟩,
 ⟨(some 15), .conv .u64 (.tmp 14), none⟩,
 ⟨(some 16), .bin .shl (.const (.int .u64 1)) (.tmp 15), none⟩,
 ⟨(some 17), .bin .or (.tmp 13) (.tmp 16), none⟩,
 ⟨(some 18), .off (.tmp 3) 1, none⟩,
 ⟨none, .store 1 (.tmp 18) (.tmp 17), none⟩])
 .skip))
 (.seq
 (.ops [
 ⟨(some 19), .move (.tmp 4), none⟩,
 ⟨(some 20), .bin .add (.tmp 19) (.const (.int .i64 64)), none⟩,
 ⟨(some 21), .idxArr (.tmp 1) (.tmp 20) 128 1, none⟩,
 ⟨(some 22), .load 1 false (.tmp 21), none⟩])
 (.cond (.tmp 22)
 (.ops [
 ⟨(some 23), .off (.tmp 3) 0, none⟩,
 ⟨(some 24), .load 1 false (.tmp 23), none⟩,
 ⟨(some 25), .move (.tmp 4), none⟩,
 ⟨(some 26), .conv .u64 (.tmp 25), none⟩,
 ⟨(some 27), .bin .shl (.const (.int .u64 1)) (.tmp 26), none⟩,
 ⟨(some 28), .bin .or (.tmp 24) (.tmp 27), none⟩,
 ⟨(some 29), .off (.tmp 3) 0, none⟩,
 ⟨none, .store 1 (.tmp 29) (.tmp 28), none⟩])
 .skip))))
 (.ops [
 ⟨(some 7), .move (.tmp 4), none⟩,
 ⟨(some 8), .bin .add (.tmp 7) (.const (.int .i64 1)), none⟩,
 ⟨(some 4), .move (.tmp 8), none⟩]))))))
 (.seq
 (.ops [
 ⟨(some 30), .load 2 true (.tmp 3), none⟩,
 ⟨none, .store 2 (.tmp 2) (.tmp 30), none⟩])
 .ret))))⟩
theorem t35_ok : goodFn Try.prog 35 = true ∧ cfn Try.prog 35 = t35 := ⟨by kernel_rfl, by kernel_rfl⟩

/-- matchguard/value.Fits -/
def t36 : NFn := ⟨9, [(.tmp 4)],
 (.seq
 (.ops [
 ⟨(some 2), .box (.tmp 0), none⟩,
 ⟨(some 4), .move (.const (.bool false)), none⟩])
 (.seq
 (.ops [
 ⟨(some 5), .load 2 true (.tmp 2), none⟩,
 ⟨(some 6), .call 49 [(.tmp 5)], none⟩,
 ⟨(some 7), .move (.tmp 1), none⟩,
 ⟨(some 8), .bin .leq (.tmp 6) (.tmp 7), none⟩,
 ⟨(some 4), .move (.tmp 8), none⟩])
 .ret))⟩
theorem t36_ok : goodFn Try.prog 36 = true ∧ cfn Try.prog 36 = t36 := ⟨by kernel_rfl, by kernel_rfl⟩

/-- (*matchguard/trie.Trie).Longest$1 -/
def t37 : NFn := ⟨18, [],
 (.seq
 (.ops [
 ⟨(some 5), .load 1 false (.tmp 0), none⟩,
 ⟨(some 6), .eq true false [.ptr] (.tmp 5) (.const (.ptr none)), none⟩,
 ⟨(some 7), .move (.tmp 6), none⟩,
 ⟨(some 8), .load 1 false (.tmp 0), (some (7, true))⟩,
 ⟨(some 9), .nilCheck (.tmp 8), (some (7, true))⟩,
 ⟨(some 10), .off (.tmp 9) 2, (some (7, true))⟩,
 ⟨(some 11), .load 1 false (.tmp 10), (some (7, true))⟩,
 ⟨(some 12), .pick (.tmp 7) (.tmp 11) (.const (.bool false)), none⟩])
 (.cond (.tmp 12)
 (.draw 0 [
 ⟨0, ⟨(some 13), .load 1 false (.tmp 1), none⟩, [], 0⟩,
 ⟨1, ⟨(some 14), .load 1 false (.tmp 0), none⟩, [], 0⟩,
 ⟨2, ⟨(some 15), .nilCheck (.tmp 14), none⟩, [1], 0⟩,
 ⟨3, ⟨(some 16), .off (.tmp 15) 3, none⟩, [2, 1], 0⟩,
 ⟨4, ⟨(some 17), .load 1 false (.tmp 16), none⟩, [3, 2, 1], 0⟩,
 ⟨5, ⟨none, .store 1 (.tmp 2) (.tmp 13), none⟩, [0], 0⟩,
 ⟨6, ⟨none, .store 1 (.tmp 3) (.tmp 17), none⟩, [4, 3, 2, 1, 5, 0], 0⟩,
 ⟨7, ⟨none, .store 1 (.tmp 4) (.const (.bool true)), none⟩, [6, 4, 3, 2, 1, 5, 0], 0⟩])
 .skip))⟩
theorem t37_ok : goodFn Try.prog 37 = true ∧ cfn Try.prog 37 = t37 := ⟨by kernel_rfl, by kernel_rfl⟩

/-- (*matchguard/trie.node).empty -/
def t39 : NFn := ⟨16, [(.tmp 2)],
 (.seq
 (.ops [
 ⟨(some 2), .move (.const (.bool false)), none⟩])
 (.seq
 (.ops [
 ⟨(some 3), .move (.tmp 0), none⟩,
 ⟨(some 4), .nilCheck (.tmp 3), none⟩,
 ⟨(some 5), .off (.tmp 4) 2, none⟩,
 ⟨(some 6), .load 1 false (.tmp 5), none⟩,
 ⟨(some 7), .un .not (.tmp 6), none⟩,
 ⟨(some 8), .move (.tmp 7), none⟩,
 ⟨(some 9), .move (.tmp 0), (some (8, true))⟩,
 ⟨(some 10), .nilCheck (.tmp 9), (some (8, true))⟩,
 ⟨(some 11), .off (.tmp 10) 0, (some (8, true))⟩,
 ⟨(some 12), .load 2 true (.tmp 11), (some (8, true))⟩,
 ⟨(some 13), .build [(.ptr none), (.ptr none)] [], (some (8, true))⟩,
 ⟨(some 14), .eq false true [.ptr, .ptr] (.tmp 12) (.tmp 13), (some (8, true))⟩,
 ⟨(some 15), .pick (.tmp 8) (.tmp 14) (.const (.bool false)), none⟩,
 ⟨(some 2), .move (.tmp 15), none⟩])
 .ret))⟩
theorem t39_ok : goodFn Try.prog 39 = true ∧ cfn Try.prog 39 = t39 := ⟨by kernel_rfl, by kernel_rfl⟩

/-- (*matchguard/trie.Trie).nodes -/
def t40 : NFn := ⟨14, [],
 (.seq
 (.ops [
 ⟨(some 4), .move (.tmp 0), none⟩,
 ⟨(some 5), .eq true false [.ptr] (.tmp 4) (.const (.ptr none)), none⟩])
 (.cond (.tmp 5)
 (.ops [
 ⟨(some 6), .move (.tmp 0), none⟩,
 ⟨(some 7), .move (.tmp 0), none⟩,
 ⟨(some 8), .nilCheck (.tmp 7), none⟩,
 ⟨(some 9), .off (.tmp 8) 1, none⟩,
 ⟨(some 10), .load 1 false (.tmp 9), none⟩,
 ⟨(some 11), .build [(.int .u64 0), (.int .u64 0)] [], none⟩,
 ⟨(some 12), .move (.tmp 1), none⟩,
 ⟨(some 13), .call 51 [(.tmp 6), (.tmp 10), (.tmp 11), (.const (.int .i64 0)), (.tmp 12)], none⟩])
 .skip))⟩
theorem t40_ok : goodFn Try.prog 40 = true ∧ cfn Try.prog 40 = t40 := ⟨by kernel_rfl, by kernel_rfl⟩

/-- (*matchguard/trie.Trie).All$1 -/
def t41 : NFn := ⟨21, [],
 (.seq
 (.ops [
 ⟨(some 5), .box (.tmp 1), none⟩])
 (.seq
 (.ops [
 ⟨(some 7), .move (.tmp 0), none⟩,
 ⟨(some 8), .nilCheck (.tmp 7), none⟩,
 ⟨(some 9), .off (.tmp 8) 2, none⟩,
 ⟨(some 10), .load 1 false (.tmp 9), none⟩])
 (.cond (.tmp 10)
 (.draw 1 [
 ⟨0, ⟨(some 11), .load 1 false (.tmp 3), none⟩, [], 0⟩,
 ⟨1, ⟨(some 12), .load 2 true (.tmp 5), none⟩, [], 0⟩,
 ⟨2, ⟨(some 13), .move (.tmp 2), none⟩, [], 0⟩,
 ⟨3, ⟨(some 14), .move (.tmp 0), none⟩, [], 0⟩,
 ⟨4, ⟨(some 15), .nilCheck (.tmp 14), none⟩, [3], 0⟩,
 ⟨5, ⟨(some 16), .off (.tmp 15) 3, none⟩, [4, 3], 0⟩,
 ⟨6, ⟨(some 17), .load 1 false (.tmp 16), none⟩, [5, 4, 3], 0⟩,
 ⟨7, ⟨(some 18), .build [(.int .u64 0), (.int .u64 0), (.int .i64 0), (.int .i64 0)] [(0, 2, (.tmp 12)), (2, 1, (.tmp 13)), (3, 1, (.tmp 17))], none⟩, [1, 2, 6, 5, 4, 3], 0⟩,
 ⟨8, ⟨(some 19), .bslice 1 [(.int .u64 0), (.int .u64 0), (.int .i64 0), (.int .i64 0)] [(0, 4, (.tmp 18))], none⟩, [7, 1, 2, 6, 5, 4, 3], 0⟩,
 ⟨9, ⟨(some 20), .append 4 32 (.tmp 11) (.tmp 19), none⟩, [0, 8, 7, 1, 2, 6, 5, 4, 3], 1⟩,
 ⟨10, ⟨none, .store 1 (.tmp 3) (.tmp 20), none⟩, [9, 0, 8, 7, 1, 2, 6, 5, 4, 3], 1⟩])
 .skip)))⟩
theorem t41_ok : goodFn Try.prog 41 = true ∧ cfn Try.prog 41 = t41 := ⟨by kernel_rfl, by kernel_rfl⟩

/-- (*matchguard/trie.Trie).Nodes$1 -/
def t42 : NFn := ⟨9, [],
 (.seq
 (.ops [
 ⟨(some 5), .box (.tmp 1), none⟩])
 (.ops [
 ⟨(some 7), .load 1 false (.tmp 3), none⟩,
 ⟨(some 8), .bin .add (.tmp 7) (.const (.int .i64 1)), none⟩,
 ⟨none, .store 1 (.tmp 3) (.tmp 8), none⟩]))⟩
theorem t42_ok : goodFn Try.prog 42 = true ∧ cfn Try.prog 42 = t42 := ⟨by kernel_rfl, by kernel_rfl⟩

/-- matchguard/matchguardref01.clamp -/
def t43 : NFn := ⟨6, [(.tmp 2)],
 (.seq
 (.ops [
 ⟨(some 2), .move (.const (.int .i64 0)), none⟩])
 (.seq
 (.ops [
 ⟨(some 3), .move (.tmp 0), none⟩,
 ⟨(some 4), .minmax false [(.tmp 3), (.const (.int .i64 128))], none⟩,
 ⟨(some 5), .minmax true [(.const (.int .i64 0)), (.tmp 4)], none⟩,
 ⟨(some 2), .move (.tmp 5), none⟩])
 .ret))⟩
theorem t43_ok : goodFn Try.prog 43 = true ∧ cfn Try.prog 43 = t43 := ⟨by kernel_rfl, by kernel_rfl⟩

/-- matchguard/value.And -/
def t44 : NFn := ⟨16, [(.cell 4 2 true)],
 (.seq
 (.ops [
 ⟨(some 2), .box (.tmp 0), none⟩,
 ⟨(some 3), .box (.tmp 1), none⟩,
 ⟨(some 4), .alloc [(.int .u64 0), (.int .u64 0)], none⟩])
 (.seq
 (.ops [
 ⟨(some 5), .off (.tmp 2) 0, none⟩,
 ⟨(some 6), .load 1 false (.tmp 5), none⟩,
 ⟨(some 7), .off (.tmp 3) 0, none⟩,
 ⟨(some 8), .load 1 false (.tmp 7), none⟩,
 ⟨(some 9), .bin .and (.tmp 6) (.tmp 8), none⟩,
 ⟨(some 10), .off (.tmp 2) 1, none⟩,
 ⟨(some 11), .load 1 false (.tmp 10), none⟩,
 ⟨(some 12), .off (.tmp 3) 1, none⟩,
 ⟨(some 13), .load 1 false (.tmp 12), none⟩,
 ⟨(some 14), .bin .and (.tmp 11) (.tmp 13), none⟩,
 ⟨(some 15), .build [(.int .u64 0), (.int .u64 0)] [(0, 1, (.tmp 9)), (1, 1, (.tmp 14))], none⟩,
 ⟨none, .store 2 (.tmp 4) (.tmp 15), none⟩])
 .ret))⟩
theorem t44_ok : goodFn Try.prog 44 = true ∧ cfn Try.prog 44 = t44 := ⟨by kernel_rfl, by kernel_rfl⟩

/-- matchguard/value.Leading -/
def t45 : NFn := ⟨18, [(.cell 4 2 true)],
 (.seq
 (.ops [
 ⟨(some 4), .alloc [(.int .u64 0), (.int .u64 0)], none⟩])
 (.seq
 (.ops [
 ⟨(some 5), .move (.tmp 0), none⟩,
 ⟨(some 6), .call 52 [(.tmp 5)], none⟩,
 ⟨(some 0), .move (.tmp 6), none⟩])
 (.seq
 (.ops [
 ⟨(some 7), .move (.tmp 1), none⟩,
 ⟨(some 8), .minmax true [(.const (.int .i64 0)), (.tmp 7)], none⟩,
 ⟨(some 9), .move (.tmp 0), none⟩,
 ⟨(some 10), .minmax false [(.tmp 8), (.tmp 9)], none⟩,
 ⟨(some 1), .move (.tmp 10), none⟩])
 (.seq
 (.ops [
 ⟨(some 11), .move (.tmp 0), none⟩,
 ⟨(some 12), .call 54 [(.tmp 11)], none⟩,
 ⟨(some 13), .move (.tmp 0), none⟩,
 ⟨(some 14), .move (.tmp 1), none⟩,
 ⟨(some 15), .bin .sub (.tmp 13) (.tmp 14), none⟩,
 ⟨(some 16), .call 54 [(.tmp 15)], none⟩,
 ⟨(some 17), .call 53 [(.tmp 12), (.tmp 16)], none⟩,
 ⟨none, .store 2 (.tmp 4) (.tmp 17), none⟩])
 .ret))))⟩
theorem t45_ok : goodFn Try.prog 45 = true ∧ cfn Try.prog 45 = t45 := ⟨by kernel_rfl, by kernel_rfl⟩

/-- (*matchguard/trie.Trie).path$1 -/
def t46 : NFn := ⟨25, [],
 (.seq
 (.ops [
 ⟨(some 7), .load 1 false (.tmp 1), none⟩,
 ⟨(some 8), .move (.const (.int .i64 0)), none⟩])
 (.block 0
 (.loop
 (.seq
 (.ops [
 ⟨(some 9), .bin .lss (.tmp 8) (.tmp 7), none⟩])
 (.seq
 (.cond (.tmp 9)
 .skip
 (.exit 0))
 (.seq
 (.block 1
 (.seq
 (.ops [
 ⟨(some 10), .move (.tmp 8), none⟩,
 ⟨(some 5), .move (.tmp 10), none⟩])
 (.seq
 (.ops [
 ⟨(some 6), .move (.const (.int .i64 0)), none⟩])
 (.seq
 (.seq
 (.draw 0 [
 ⟨0, ⟨(some 11), .load 2 true (.tmp 2), none⟩, [], 0⟩,
 ⟨1, ⟨(some 12), .load 1 false (.tmp 3), none⟩, [], 0⟩,
 ⟨2, ⟨(some 13), .nilCheck (.tmp 12), none⟩, [1], 0⟩,
 ⟨3, ⟨(some 14), .off (.tmp 13) 0, none⟩, [2, 1], 0⟩,
 ⟨4, ⟨(some 15), .load 1 false (.tmp 14), none⟩, [3, 2, 1], 0⟩,
 ⟨5, ⟨(some 16), .bin .sub (.tmp 15) (.const (.int .i64 1)), none⟩, [4, 3, 2, 1], 0⟩,
 ⟨6, ⟨(some 17), .move (.tmp 5), none⟩, [], 0⟩,
 ⟨7, ⟨(some 18), .bin .sub (.tmp 16) (.tmp 17), none⟩, [5, 4, 3, 2, 1, 6], 0⟩,
 ⟨8, ⟨(some 19), .call 47 [(.tmp 11), (.tmp 18)], none⟩, [0, 7, 5, 4, 3, 2, 1, 6], 0⟩])
 (.cond (.tmp 19)
 (.ops [
 ⟨(some 6), .move (.const (.int .i64 1)), none⟩])
 .skip))
 (.seq
 (.ops [
 ⟨(some 20), .move (.tmp 0), none⟩,
 ⟨(some 21), .move (.tmp 6), none⟩,
 ⟨(some 22), .callv (.tmp 20) [(.tmp 21)], none⟩,
 ⟨(some 23), .un .not (.tmp 22), none⟩])
 (.cond (.tmp 23)
 .ret
 .skip))))))
 (.ops [
 ⟨(some 24), .bin .add (.tmp 8) (.const (.int .i64 1)), none⟩,
 ⟨(some 8), .move (.tmp 24), none⟩])))))))⟩
theorem t46_ok : goodFn Try.prog 46 = true ∧ cfn Try.prog 46 = t46 := ⟨by kernel_rfl, by kernel_rfl⟩

/-- matchguard/value.Bit -/
def t47 : NFn := ⟨19, [(.tmp 4)],
 (.seq
 (.ops [
 ⟨(some 2), .box (.tmp 0), none⟩,
 ⟨(some 4), .move (.const (.bool false)), none⟩])
 (.seq
 (.ops [
 ⟨(some 5), .move (.tmp 1), none⟩,
 ⟨(some 6), .bin .geq (.tmp 5) (.const (.int .i64 0)), none⟩,
 ⟨(some 7), .move (.tmp 6), none⟩,
 ⟨(some 8), .move (.tmp 1), (some (7, true))⟩,
 ⟨(some 9), .bin .lss (.tmp 8) (.const (.int .i64 128)), (some (7, true))⟩,
 ⟨(some 10), .pick (.tmp 7) (.tmp 9) (.const (.bool false)), none⟩,
 ⟨(some 11), .move (.tmp 10), none⟩,
 ⟨(some 12), .load 2 true (.tmp 2), (some (11, true))⟩,
 ⟨(some 13), .move (.tmp 1), (some (11, true))⟩,
 ⟨(some 14), .call 55 [(.tmp 12), (.tmp 13)], (some (11, true))⟩,
 ⟨(some 15), .fieldv (.tmp 14) 1 1 false, (some (11, true))⟩,
 ⟨(some 16), .bin .and (.tmp 15) (.const (.int .u64 1)), (some (11, true))⟩,
 ⟨(some 17), .bin .eql (.tmp 16) (.const (.int .u64 1)), (some (11, true))⟩,
 ⟨(some 18), .pick (.tmp 11) (.tmp 17) (.const (.bool false)), none⟩,
 ⟨(some 4), .move (.tmp 18), none⟩])
 .ret))⟩
theorem t47_ok : goodFn Try.prog 47 = true ∧ cfn Try.prog 47 = t47 := ⟨by kernel_rfl, by kernel_rfl⟩

/-- matchguard/matchguardref01.Compare -/
def t48 : NFn := ⟨26, [(.tmp 4)],
 (.seq
 (.ops [
 ⟨(some 2), .box (.tmp 0), none⟩,
 ⟨(some 3), .box (.tmp 1), none⟩,
 ⟨(some 4), .move (.const (.int .i64 0)), none⟩])
 (.seq
 (.draw 2 [
 ⟨0, ⟨(some 8), .load 2 true (.tmp 2), none⟩, [], 0⟩,
 ⟨1, ⟨(some 9), .call 34 [(.tmp 8)], none⟩, [0], 0⟩,
 ⟨2, ⟨(some 10), .load 2 true (.tmp 3), none⟩, [], 0⟩,
 ⟨3, ⟨(some 11), .call 34 [(.tmp 10)], none⟩, [2, 1, 0], 0⟩,
 ⟨4, ⟨(some 5), .alloc (fill 128 (.bool false)), none⟩, [], 0⟩,
 ⟨5, ⟨(some 6), .alloc (fill 128 (.bool false)), none⟩, [], 1⟩,
 ⟨6, ⟨none, .store 128 (.tmp 5) (.tmp 9), none⟩, [4, 1, 0, 3, 2, 5], 2⟩,
 ⟨7, ⟨none, .store 128 (.tmp 6) (.tmp 11), none⟩, [5, 3, 2, 1, 0, 6, 4], 2⟩])
 (.seq
 (.seq
 (.ops [
 ⟨(some 7), .move (.const (.int .i64 127)), none⟩])
 (.block 0
 (.loop
 (.seq
 (.seq
 (.ops [
 ⟨(some 12), .move (.tmp 7), none⟩,
 ⟨(some 13), .bin .geq (.tmp 12) (.const (.int .i64 0)), none⟩])
 (.cond (.tmp 13)
 .skip
 (.exit 0)))
 (.seq
 (.block 1
 (.seq
 (.draw 0 [
 ⟨0, ⟨(some 16), .move (.tmp 7), none⟩, [], 0⟩,
 ⟨1, ⟨(some 17), .idxArr (.tmp 5) (.tmp 16) 128 1, none⟩, [0], 0⟩,
 ⟨2, ⟨(some 18), .load 1 false (.tmp 17), none⟩, [1, 0], 0⟩,
 ⟨3, ⟨(some 19), .move (.tmp 7), none⟩, [], 0⟩,
 ⟨4, ⟨(some 20), .idxArr (.tmp 6) (.tmp 19) 128 1, none⟩, [3], 0⟩,
 ⟨5, ⟨(some 21), .load 1 false (.tmp 20), none⟩, [4, 3], 0⟩,
 ⟨6, ⟨(some 22), .eq true false [.bool] (.tmp 18) (.tmp 21), none⟩, [2, 1, 0, 5, 4, 3], 0⟩])
 (.cond (.tmp 22)
 (.seq
 (.seq
 (.ops [
 ⟨(some 23), .move (.tmp 7), none⟩,
 ⟨(some 24), .idxArr (.tmp 6) (.tmp 23) 128 1, none⟩,
 ⟨(some 25), .load 1 false (.tmp 24), none⟩])
 (.cond (.tmp 25)
 (.seq
 (.ops [
 ⟨(some 4), .move (.const (.int .i64 (-1))), none⟩])
 .ret)
 .skip))
 (.seq
 (.ops [
 ⟨(some 4), .move (.const (.int .i64 1)), none⟩])
 .ret))
 .skip)))
 (.ops [
 ⟨(some 14), .move (.tmp 7), none⟩,
 ⟨(some 15), .bin .sub (.tmp 14) (.const (.int .i64 1)), none⟩,
 ⟨(some 7), .move (.tmp 15), none⟩]))))))
 (.seq
 (.ops [
 ⟨(some 4), .move (.const (.int .i64 0)), none⟩])
 .ret))))⟩
theorem t48_ok : goodFn Try.prog 48 = true ∧ cfn Try.prog 48 = t48 := ⟨by kernel_rfl, by kernel_rfl⟩

/-- matchguard/value.Len -/
def t49 : NFn := ⟨13, [(.tmp 2)],
 (.seq
 (.ops [
 ⟨(some 1), .box (.tmp 0), none⟩,
 ⟨(some 2), .move (.const (.int .i64 0)), none⟩])
 (.seq
 (.seq
 (.ops [
 ⟨(some 3), .off (.tmp 1) 0, none⟩,
 ⟨(some 4), .load 1 false (.tmp 3), none⟩,
 ⟨(some 5), .bin .neq (.tmp 4) (.const (.int .u64 0)), none⟩])
 (.cond (.tmp 5)
 (.seq
 (.ops [
 ⟨(some 6), .off (.tmp 1) 0, none⟩,
 ⟨(some 7), .load 1 false (.tmp 6), none⟩,
 ⟨(some 8), .call 56 [(.tmp 7)], none⟩,
 ⟨(some 9), .bin .add (.const (.int .i64 64)) (.tmp 8), none⟩,
 ⟨(some 2), .move (.tmp 9), none⟩])
 .ret)
 .skip))
 (.seq
 (.ops [
 ⟨(some 10), .off (.tmp 1) 1, none⟩,
 ⟨(some 11), .load 1 false (.tmp 10), none⟩,
 ⟨(some 12), .call 56 [(.tmp 11)], none⟩,
 ⟨(some 2), .move (.tmp 12), none⟩])
 .ret)))⟩
theorem t49_ok : goodFn Try.prog 49 = true ∧ cfn Try.prog 49 = t49 := ⟨by kernel_rfl, by kernel_rfl⟩

/-- (*matchguard/trie.Trie).walk -/
def t51 : NFn := ⟨49, [],
 (.seq
 (.ops [
 ⟨(some 7), .box (.tmp 2), none⟩])
 (.seq
 (.seq
 (.ops [
 ⟨(some 10), .move (.tmp 1), none⟩,
 ⟨(some 11), .eq false false [.ptr] (.tmp 10) (.const (.ptr none)), none⟩])
 (.cond (.tmp 11)
 .ret
 .skip))
 (.seq
 (.ops [
 ⟨(some 12), .move (.tmp 4), none⟩,
 ⟨(some 13), .move (.tmp 1), none⟩,
 ⟨(some 14), .load 2 true (.tmp 7), none⟩,
 ⟨(some 15), .move (.tmp 3), none⟩,
 ⟨(some 16), .callv (.tmp 12) [(.tmp 13), (.tmp 14), (.tmp 15)], none⟩])
 (.seq
 (.draw 0 [
 ⟨0, ⟨(some 17), .move (.tmp 0), none⟩, [], 0⟩,
 ⟨1, ⟨(some 18), .move (.tmp 1), none⟩, [], 0⟩,
 ⟨2, ⟨(some 19), .nilCheck (.tmp 18), none⟩, [1], 0⟩,
 ⟨3, ⟨(some 20), .off (.tmp 19) 0, none⟩, [2, 1], 0⟩,
 ⟨4, ⟨(some 21), .idxArr (.tmp 20) (.const (.int .i64 0)) 2 1, none⟩, [3, 2, 1], 0⟩,
 ⟨5, ⟨(some 22), .load 1 false (.tmp 21), none⟩, [4, 3, 2, 1], 0⟩,
 ⟨6, ⟨(some 23), .load 2 true (.tmp 7), none⟩, [], 0⟩,
 ⟨7, ⟨(some 24), .move (.tmp 3), none⟩, [], 0⟩,
 ⟨8, ⟨(some 25), .bin .add (.tmp 24) (.const (.int .i64 1)), none⟩, [7], 0⟩,
 ⟨9, ⟨(some 26), .move (.tmp 4), none⟩, [], 0⟩,
 ⟨10, ⟨(some 27), .call 51 [(.tmp 17), (.tmp 22), (.tmp 23), (.tmp 25), (.tmp 26)], none⟩, [0, 5, 4, 3, 2, 1, 6, 8, 7, 9], 0⟩])
 (.draw 0 [
 ⟨0, ⟨(some 28), .move (.tmp 0), none⟩, [], 0⟩,
 ⟨1, ⟨(some 29), .move (.tmp 1), none⟩, [], 0⟩,
 ⟨2, ⟨(some 30), .nilCheck (.tmp 29), none⟩, [1], 0⟩,
 ⟨3, ⟨(some 31), .off (.tmp 30) 0, none⟩, [2, 1], 0⟩,
 ⟨4, ⟨(some 32), .idxArr (.tmp 31) (.const (.int .i64 1)) 2 1, none⟩, [3, 2, 1], 0⟩,
 ⟨5, ⟨(some 33), .load 1 false (.tmp 32), none⟩, [4, 3, 2, 1], 0⟩,
 ⟨6, ⟨(some 34), .load 2 true (.tmp 7), none⟩, [], 0⟩,
 ⟨7, ⟨(some 35), .call 59 [(.const (.int .u64 1))], none⟩, [], 0⟩,
 ⟨8, ⟨(some 36), .move (.tmp 0), none⟩, [], 0⟩,
 ⟨9, ⟨(some 37), .nilCheck (.tmp 36), none⟩, [8], 0⟩,
 ⟨10, ⟨(some 38), .off (.tmp 37) 0, none⟩, [9, 8], 0⟩,
 ⟨11, ⟨(some 39), .load 1 false (.tmp 38), none⟩, [10, 9, 8], 0⟩,
 ⟨12, ⟨(some 40), .bin .sub (.tmp 39) (.const (.int .i64 1)), none⟩, [11, 10, 9, 8], 0⟩,
 ⟨13, ⟨(some 41), .move (.tmp 3), none⟩, [], 0⟩,
 ⟨14, ⟨(some 42), .bin .sub (.tmp 40) (.tmp 41), none⟩, [12, 11, 10, 9, 8, 13], 0⟩,
 ⟨15, ⟨(some 43), .call 58 [(.tmp 35), (.tmp 42)], none⟩, [7, 14, 12, 11, 10, 9, 8, 13], 0⟩,
 ⟨16, ⟨(some 44), .call 57 [(.tmp 34), (.tmp 43)], none⟩, [6, 15, 7, 14, 12, 11, 10, 9, 8, 13], 0⟩,
 ⟨17, ⟨(some 45), .move (.tmp 3), none⟩, [], 0⟩,
 ⟨18, ⟨(some 46), .bin .add (.tmp 45) (.const (.int .i64 1)), none⟩, [17], 0⟩,
 ⟨19, ⟨(some 47), .move (.tmp 4), none⟩, [], 0⟩,
 ⟨20, ⟨(some 48), .call 51 [(.tmp 28), (.tmp 33), (.tmp 44), (.tmp 46), (.tmp 47)], none⟩, [0, 5, 4, 3, 2, 1, 16, 6, 15, 7, 14, 12, 11, 10, 9, 8, 13, 18, 17, 19], 0⟩])))))⟩
theorem t51_ok : goodFn Try.prog 51 = true ∧ cfn Try.prog 51 = t51 := ⟨by kernel_rfl, by kernel_rfl⟩

/-- matchguard/value.within -/
def t52 : NFn := ⟨6, [(.tmp 2)],
 (.seq
 (.ops [
 ⟨(some 2), .move (.const (.int .i64 0)), none⟩])
 (.seq
 (.ops [
 ⟨(some 3), .move (.tmp 0), none⟩,
 ⟨(some 4), .minmax true [(.const (.int .i64 0)), (.tmp 3)], none⟩,
 ⟨(some 5), .minmax false [(.tmp 4), (.const (.int .i64 128))], none⟩,
 ⟨(some 2), .move (.tmp 5), none⟩])
 .ret))⟩
theorem t52_ok : goodFn Try.prog 52 = true ∧ cfn Try.prog 52 = t52 := ⟨by kernel_rfl, by kernel_rfl⟩

/-- matchguard/value.Xor -/
def t53 : NFn := ⟨16, [(.cell 4 2 true)],
 (.seq
 (.ops [
 ⟨(some 2), .box (.tmp 0), none⟩,
 ⟨(some 3), .box (.tmp 1), none⟩,
 ⟨(some 4), .alloc [(.int .u64 0), (.int .u64 0)], none⟩])
 (.seq
 (.ops [
 ⟨(some 5), .off (.tmp 2) 0, none⟩,
 ⟨(some 6), .load 1 false (.tmp 5), none⟩,
 ⟨(some 7), .off (.tmp 3) 0, none⟩,
 ⟨(some 8), .load 1 false (.tmp 7), none⟩,
 ⟨(some 9), .bin .xor (.tmp 6) (.tmp 8), none⟩,
 ⟨(some 10), .off (.tmp 2) 1, none⟩,
 ⟨(some 11), .load 1 false (.tmp 10), none⟩,
 ⟨(some 12), .off (.tmp 3) 1, none⟩,
 ⟨(some 13), .load 1 false (.tmp 12), none⟩,
 ⟨(some 14), .bin .xor (.tmp 11) (.tmp 13), none⟩,
 ⟨(some 15), .build [(.int .u64 0), (.int .u64 0)] [(0, 1, (.tmp 9)), (1, 1, (.tmp 14))], none⟩,
 ⟨none, .store 2 (.tmp 4) (.tmp 15), none⟩])
 .ret))⟩
theorem t53_ok : goodFn Try.prog 53 = true ∧ cfn Try.prog 53 = t53 := ⟨by kernel_rfl, by kernel_rfl⟩

/-- matchguard/value.Ones -/
def t54 : NFn := ⟨8, [(.cell 2 2 true)],
 (.seq
 (.ops [
 ⟨(some 2), .alloc [(.int .u64 0), (.int .u64 0)], none⟩])
 (.seq
 (.ops [
 ⟨(some 3), .build [(.int .u64 0), (.int .u64 0)] [(0, 1, (.const (.int .u64 18446744073709551615))), (1, 1, (.const (.int .u64 18446744073709551615)))], none⟩,
 ⟨(some 4), .move (.tmp 0), none⟩,
 ⟨(some 5), .call 52 [(.tmp 4)], none⟩,
 ⟨(some 6), .bin .sub (.const (.int .i64 128)) (.tmp 5), none⟩,
 ⟨(some 7), .call 55 [(.tmp 3), (.tmp 6)], none⟩,
 ⟨none, .store 2 (.tmp 2) (.tmp 7), none⟩])
 .ret))⟩
theorem t54_ok : goodFn Try.prog 54 = true ∧ cfn Try.prog 54 = t54 := ⟨by kernel_rfl, by kernel_rfl⟩

/-- matchguard/value.Right -/
def t55 : NFn := ⟨37, [(.cell 4 2 true)],
 (.seq
 (.ops [
 ⟨(some 2), .box (.tmp 0), none⟩,
 ⟨(some 4), .alloc [(.int .u64 0), (.int .u64 0)], none⟩])
 (.seq
 (.block 0
 (.seq
 (.ops [
 ⟨(some 6), .move (.tmp 1), none⟩,
 ⟨(some 7), .bin .leq (.tmp 6) (.const (.int .i64 0)), none⟩,
 ⟨(some 5), .move (.tmp 7), none⟩])
 (.cond (.tmp 5)
 (.seq
 (.ops [
 ⟨(some 8), .load 2 true (.tmp 2), none⟩,
 ⟨none, .store 2 (.tmp 4) (.tmp 8), none⟩])
 .ret)
 (.seq
 (.ops [
 ⟨(some 10), .move (.tmp 1), none⟩,
 ⟨(some 11), .bin .geq (.tmp 10) (.const (.int .i64 64)), none⟩,
 ⟨(some 9), .move (.tmp 11), none⟩])
 (.cond (.tmp 9)
 (.seq
 (.ops [
 ⟨(some 12), .off (.tmp 2) 0, none⟩,
 ⟨(some 13), .load 1 false (.tmp 12), none⟩,
 ⟨(some 14), .move (.tmp 1), none⟩,
 ⟨(some 15), .bin .sub (.tmp 14) (.const (.int .i64 64)), none⟩,
 ⟨(some 16), .conv .u64 (.tmp 15), none⟩,
 ⟨(some 17), .bin .shr (.tmp 13) (.tmp 16), none⟩,
 ⟨(some 18), .build [(.int .u64 0), (.int .u64 0)] [(1, 1, (.tmp 17))], none⟩,
 ⟨none, .store 2 (.tmp 4) (.tmp 18), none⟩])
 .ret)
 .skip)))))
 (.seq
 (.ops [
 ⟨(some 19), .off (.tmp 2) 0, none⟩,
 ⟨(some 20), .load 1 false (.tmp 19), none⟩,
 ⟨(some 21), .move (.tmp 1), none⟩,
 ⟨(some 22), .conv .u64 (.tmp 21), none⟩,
 ⟨(some 23), .bin .shr (.tmp 20) (.tmp 22), none⟩,
 ⟨(some 24), .off (.tmp 2) 1, none⟩,
 ⟨(some 25), .load 1 false (.tmp 24), none⟩,
 ⟨(some 26), .move (.tmp 1), none⟩,
 ⟨(some 27), .conv .u64 (.tmp 26), none⟩,
 ⟨(some 28), .bin .shr (.tmp 25) (.tmp 27), none⟩,
 ⟨(some 29), .off (.tmp 2) 0, none⟩,
 ⟨(some 30), .load 1 false (.tmp 29), none⟩,
 ⟨(some 31), .move (.tmp 1), none⟩,
 ⟨(some 32), .bin .sub (.const (.int .i64 64)) (.tmp 31), none⟩,
 ⟨(some 33), .conv .u64 (.tmp 32), none⟩,
 ⟨(some 34), .bin .shl (.tmp 30) (.tmp 33), none⟩,
 ⟨(some 35), .bin .or (.tmp 28) (.tmp 34), none⟩,
 ⟨(some 36), .build [(.int .u64 0), (.int .u64 0)] [(0, 1, (.tmp 23)), (1, 1, (.tmp 35))], none⟩,
 ⟨none, .store 2 (.tmp 4) (.tmp 36), none⟩])
 .ret)))⟩
theorem t55_ok : goodFn Try.prog 55 = true ∧ cfn Try.prog 55 = t55 := ⟨by kernel_rfl, by kernel_rfl⟩

/-- math/bits.Len64 -/
def t56 : NFn := ⟨25, [(.tmp 2)],
 (.seq
 (.ops [
 ⟨(some 2), .move (.const (.int .i64 0)), none⟩])
 (.seq
 (.seq
 (.ops [
 ⟨(some 3), .move (.tmp 0), none⟩,
 ⟨(some 4), .bin .geq (.tmp 3) (.const (.int .u64 4294967296)), none⟩])
 (.cond (.tmp 4)
 (.seq
 (.ops [
 ⟨(some 5), .move (.tmp 0), none⟩,
 ⟨(some 6), .bin .shr (.tmp 5) (.const (.int .u64 32)), none⟩,
 ⟨(some 0), .move (.tmp 6), none⟩])
 (.ops [
 ⟨(some 2), .move (.const (.int .i64 32)), none⟩]))
 .skip))
 (.seq
 (.seq
 (.ops [
 ⟨(some 7), .move (.tmp 0), none⟩,
 ⟨(some 8), .bin .geq (.tmp 7) (.const (.int .u64 65536)), none⟩])
 (.cond (.tmp 8)
 (.seq
 (.ops [
 ⟨(some 9), .move (.tmp 0), none⟩,
 ⟨(some 10), .bin .shr (.tmp 9) (.const (.int .u64 16)), none⟩,
 ⟨(some 0), .move (.tmp 10), none⟩])
 (.ops [
 ⟨(some 11), .move (.tmp 2), none⟩,
 ⟨(some 12), .bin .add (.tmp 11) (.const (.int .i64 16)), none⟩,
 ⟨(some 2), .move (.tmp 12), none⟩]))
 .skip))
 (.seq
 (.seq
 (.ops [
 ⟨(some 13), .move (.tmp 0), none⟩,
 ⟨(some 14), .bin .geq (.tmp 13) (.const (.int .u64 256)), none⟩])
 (.cond (.tmp 14)
 (.seq
 (.ops [
 ⟨(some 15), .move (.tmp 0), none⟩,
 ⟨(some 16), .bin .shr (.tmp 15) (.const (.int .u64 8)), none⟩,
 ⟨(some 0), .move (.tmp 16), none⟩])
 (.ops [
 ⟨(some 17), .move (.tmp 2), none⟩,
 ⟨(some 18), .bin .add (.tmp 17) (.const (.int .i64 8)), none⟩,
 ⟨(some 2), .move (.tmp 18), none⟩]))
 .skip))
 (.seq
 (.ops [
 ⟨(some 19), .move (.tmp 2), none⟩,
 ⟨(some 20), .move (.tmp 0), none⟩,
 ⟨(some 21), .conv .u8 (.tmp 20), none⟩,
 ⟨(some 22), .strIdx (.const (.str ⟨#[0, 1, 2, 2, 3, 3, 3, 3, 4, 4, 4, 4, 4, 4, 4, 4, 5, 5, 5, 5, 5, 5, 5, 5, 5, 5, 5, 5, 5, 5, 5, 5, 6, 6, 6, 6, 6, 6, 6, 6, 6, 6, 6, 6, 6, 6, 6, 6, 6, 6, 6, 6, 6, 6, 6, 6, 6, 6, 6, 6, 6, 6, 6, 6, 7, 7, 7, 7, 7, 7, 7, 7, 7, 7, 7, 7, 7, 7, 7, 7, 7, 7, 7, 7, 7, 7, 7, 7, 7, 7, 7, 7, 7, 7, 7, 7, 7, 7, 7, 7, 7, 7, 7, 7, 7, 7, 7, 7, 7, 7, 7, 7, 7, 7, 7, 7, 7, 7, 7, 7, 7, 7, 7, 7, 7, 7, 7, 7, 8, 8, 8, 8, 8, 8, 8, 8, 8, 8, 8, 8, 8, 8, 8, 8, 8, 8, 8, 8, 8, 8, 8, 8, 8, 8, 8, 8, 8, 8, 8, 8, 8, 8, 8, 8, 8, 8, 8, 8, 8, 8, 8, 8, 8, 8, 8, 8, 8, 8, 8, 8, 8, 8, 8, 8, 8, 8, 8, 8, 8, 8, 8, 8, 8, 8, 8, 8, 8, 8, 8, 8, 8, 8, 8, 8, 8, 8, 8, 8, 8, 8, 8, 8, 8, 8, 8, 8, 8, 8, 8, 8, 8, 8, 8, 8, 8, 8, 8, 8, 8, 8, 8, 8, 8, 8, 8, 8, 8, 8, 8, 8, 8, 8, 8, 8, 8, 8, 8, 8, 8, 8, 8, 8, 8, 8, 8, 8]⟩)) (.tmp 21), none⟩,
 ⟨(some 23), .conv .i64 (.tmp 22), none⟩,
 ⟨(some 24), .bin .add (.tmp 19) (.tmp 23), none⟩,
 ⟨(some 2), .move (.tmp 24), none⟩])
 .ret)))))⟩
theorem t56_ok : goodFn Try.prog 56 = true ∧ cfn Try.prog 56 = t56 := ⟨by kernel_rfl, by kernel_rfl⟩

/-- matchguard/value.Or -/
def t57 : NFn := ⟨16, [(.cell 4 2 true)],
 (.seq
 (.ops [
 ⟨(some 2), .box (.tmp 0), none⟩,
 ⟨(some 3), .box (.tmp 1), none⟩,
 ⟨(some 4), .alloc [(.int .u64 0), (.int .u64 0)], none⟩])
 (.seq
 (.ops [
 ⟨(some 5), .off (.tmp 2) 0, none⟩,
 ⟨(some 6), .load 1 false (.tmp 5), none⟩,
 ⟨(some 7), .off (.tmp 3) 0, none⟩,
 ⟨(some 8), .load 1 false (.tmp 7), none⟩,
 ⟨(some 9), .bin .or (.tmp 6) (.tmp 8), none⟩,
 ⟨(some 10), .off (.tmp 2) 1, none⟩,
 ⟨(some 11), .load 1 false (.tmp 10), none⟩,
 ⟨(some 12), .off (.tmp 3) 1, none⟩,
 ⟨(some 13), .load 1 false (.tmp 12), none⟩,
 ⟨(some 14), .bin .or (.tmp 11) (.tmp 13), none⟩,
 ⟨(some 15), .build [(.int .u64 0), (.int .u64 0)] [(0, 1, (.tmp 9)), (1, 1, (.tmp 14))], none⟩,
 ⟨none, .store 2 (.tmp 4) (.tmp 15), none⟩])
 .ret))⟩
theorem t57_ok : goodFn Try.prog 57 = true ∧ cfn Try.prog 57 = t57 := ⟨by kernel_rfl, by kernel_rfl⟩

/-- matchguard/value.Left -/
def t58 : NFn := ⟨37, [(.cell 4 2 true)],
 (.seq
 (.ops [
 ⟨(some 2), .box (.tmp 0), none⟩,
 ⟨(some 4), .alloc [(.int .u64 0), (.int .u64 0)], none⟩])
 (.seq
 (.block 0
 (.seq
 (.ops [
 ⟨(some 6), .move (.tmp 1), none⟩,
 ⟨(some 7), .bin .leq (.tmp 6) (.const (.int .i64 0)), none⟩,
 ⟨(some 5), .move (.tmp 7), none⟩])
 (.cond (.tmp 5)
 (.seq
 (.ops [
 ⟨(some 8), .load 2 true (.tmp 2), none⟩,
 ⟨none, .store 2 (.tmp 4) (.tmp 8), none⟩])
 .ret)
 (.seq
 (.ops [
 ⟨(some 10), .move (.tmp 1), none⟩,
 ⟨(some 11), .bin .geq (.tmp 10) (.const (.int .i64 64)), none⟩,
 ⟨(some 9), .move (.tmp 11), none⟩])
 (.cond (.tmp 9)
 (.seq
 (.ops [
 ⟨(some 12), .off (.tmp 2) 1, none⟩,
 ⟨(some 13), .load 1 false (.tmp 12), none⟩,
 ⟨(some 14), .move (.tmp 1), none⟩,
 ⟨(some 15), .bin .sub (.tmp 14) (.const (.int .i64 64)), none⟩,
 ⟨(some 16), .conv .u64 (.tmp 15), none⟩,
 ⟨(some 17), .bin .shl (.tmp 13) (.tmp 16), none⟩,
 ⟨(some 18), .build [(.int .u64 0), (.int .u64 0)] [(0, 1, (.tmp 17))], none⟩,
 ⟨none, .store 2 (.tmp 4) (.tmp 18), none⟩])
 .ret)
 .skip)))))
 (.seq
 (.ops [
 ⟨(some 19), .off (.tmp 2) 0, none⟩,
 ⟨(some 20), .load 1 false (.tmp 19), none⟩,
 ⟨(some 21), .move (.tmp 1), none⟩,
 ⟨(some 22), .conv .u64 (.tmp 21), none⟩,
 ⟨(some 23), .bin .shl (.tmp 20) (.tmp 22), none⟩,
 ⟨(some 24), .off (.tmp 2) 1, none⟩,
 ⟨(some 25), .load 1 false (.tmp 24), none⟩,
 ⟨(some 26), .move (.tmp 1), none⟩,
 ⟨(some 27), .bin .sub (.const (.int .i64 64)) (.tmp 26), none⟩,
 ⟨(some 28), .conv .u64 (.tmp 27), none⟩,
 ⟨(some 29), .bin .shr (.tmp 25) (.tmp 28), none⟩,
 ⟨(some 30), .bin .or (.tmp 23) (.tmp 29), none⟩,
 ⟨(some 31), .off (.tmp 2) 1, none⟩,
 ⟨(some 32), .load 1 false (.tmp 31), none⟩,
 ⟨(some 33), .move (.tmp 1), none⟩,
 ⟨(some 34), .conv .u64 (.tmp 33), none⟩,
 ⟨(some 35), .bin .shl (.tmp 32) (.tmp 34), none⟩,
 ⟨(some 36), .build [(.int .u64 0), (.int .u64 0)] [(0, 1, (.tmp 30)), (1, 1, (.tmp 35))], none⟩,
 ⟨none, .store 2 (.tmp 4) (.tmp 36), none⟩])
 .ret)))⟩
theorem t58_ok : goodFn Try.prog 58 = true ∧ cfn Try.prog 58 = t58 := ⟨by kernel_rfl, by kernel_rfl⟩

/-- matchguard/value.Of -/
def t59 : NFn := ⟨5, [(.cell 2 2 true)],
 (.seq
 (.ops [
 ⟨(some 2), .alloc [(.int .u64 0), (.int .u64 0)], none⟩])
 (.seq
 (.ops [
 ⟨(some 3), .move (.tmp 0), none⟩,
 ⟨(some 4), .build [(.int .u64 0), (.int .u64 0)] [(1, 1, (.tmp 3))], none⟩,
 ⟨none, .store 2 (.tmp 2) (.tmp 4), none⟩])
 .ret))⟩
theorem t59_ok : goodFn Try.prog 59 = true ∧ cfn Try.prog 59 = t59 := ⟨by kernel_rfl, by kernel_rfl⟩

def tab : List (Nat × NFn) := [(4, t4), (7, t7), (8, t8), (9, t9), (10, t10), (11, t11), (13, t13), (14, t14), (16, t16), (17, t17), (18, t18), (19, t19), (20, t20), (21, t21), (22, t22), (23, t23), (24, t24), (25, t25), (26, t26), (27, t27), (28, t28), (29, t29), (30, t30), (31, t31), (32, t32), (33, t33), (34, t34), (35, t35), (36, t36), (37, t37), (39, t39), (40, t40), (41, t41), (42, t42), (43, t43), (44, t44), (45, t45), (46, t46), (47, t47), (48, t48), (49, t49), (51, t51), (52, t52), (53, t53), (54, t54), (55, t55), (56, t56), (57, t57), (58, t58), (59, t59)]
theorem tab_ok : ∀ p ∈ tab, goodFn Try.prog p.1 = true ∧ cfn Try.prog p.1 = p.2 := by
 intro p hp
 simp only [tab, List.mem_cons, List.not_mem_nil, or_false] at hp
 rcases hp with rfl | rfl | rfl | rfl | rfl | rfl | rfl | rfl | rfl | rfl | rfl | rfl | rfl | rfl | rfl | rfl | rfl | rfl | rfl | rfl | rfl | rfl | rfl | rfl | rfl | rfl | rfl | rfl | rfl | rfl | rfl | rfl | rfl | rfl | rfl | rfl | rfl | rfl | rfl | rfl | rfl | rfl | rfl | rfl | rfl | rfl | rfl | rfl | rfl | rfl
 · exact t4_ok
 · exact t7_ok
 · exact t8_ok
 · exact t9_ok
 · exact t10_ok
 · exact t11_ok
 · exact t13_ok
 · exact t14_ok
 · exact t16_ok
 · exact t17_ok
 · exact t18_ok
 · exact t19_ok
 · exact t20_ok
 · exact t21_ok
 · exact t22_ok
 · exact t23_ok
 · exact t24_ok
 · exact t25_ok
 · exact t26_ok
 · exact t27_ok
 · exact t28_ok
 · exact t29_ok
 · exact t30_ok
 · exact t31_ok
 · exact t32_ok
 · exact t33_ok
 · exact t34_ok
 · exact t35_ok
 · exact t36_ok
 · exact t37_ok
 · exact t39_ok
 · exact t40_ok
 · exact t41_ok
 · exact t42_ok
 · exact t43_ok
 · exact t44_ok
 · exact t45_ok
 · exact t46_ok
 · exact t47_ok
 · exact t48_ok
 · exact t49_ok
 · exact t51_ok
 · exact t52_ok
 · exact t53_ok
 · exact t54_ok
 · exact t55_ok
 · exact t56_ok
 · exact t57_ok
 · exact t58_ok
 · exact t59_ok
end Go.Proofs
