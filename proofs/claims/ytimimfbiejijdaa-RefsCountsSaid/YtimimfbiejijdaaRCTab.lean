import Derived.Test.YtimimfbiejijdaaNsQ
import Derived.Test.YtimimfbiejijdaaProg
import Derived.KernelRfl
set_option maxRecDepth 100000
namespace Go.Proofs
open Go.Ns
/-- A long list of one value over and over. -/
def fill (n : Nat) (x : NV) : List NV := List.replicate n x

/-- matchguard/matchguardlaw16.RefsCounts -/
def t5 : NFn := ⟨83, [(.tmp 4)],
 (.seq
 (.ops [
 ⟨(some 4), .move (.const (.bool false)), none⟩])
 (.seq
 (.ops [
 ⟨(some 12), .move (.tmp 0), none⟩,
 ⟨(some 13), .call 7 [(.tmp 12)], none⟩,
 ⟨(some 14), .move (.tmp 1), none⟩,
 ⟨(some 15), .call 8 [(.tmp 14), (.const (.int .i64 200))], none⟩,
 ⟨(some 5), .alloc [(.slice none 0 (.fix 0)), (.slice none 0 (.fix 0)), (.slice none 0 (.fix 0)), (.slice none 0 (.fix 0)), (.slice none 0 (.fix 0)), (.slice none 0 (.fix 0)), (.slice none 0 (.fix 0)), (.slice none 0 (.fix 0)), (.int .i64 0), (.int .i64 0)], none⟩,
 ⟨none, .store 10 (.tmp 5) (.tmp 13), none⟩,
 ⟨(some 6), .move (.tmp 15), none⟩])
 (.seq
 (.ops [
 ⟨(some 16), .load 10 true (.tmp 5), none⟩,
 ⟨(some 17), .call 16 [(.tmp 16)], none⟩,
 ⟨(some 7), .move (.tmp 17), none⟩])
 (.seq
 (.ops [
 ⟨(some 8), .move (.const (.slice none 0 (.fix 0))), none⟩])
 (.seq
 (.seq
 (.ops [
 ⟨(some 9), .move (.const (.int .i64 0)), none⟩])
 (.block 0
 (.loop
 (.seq
 (.seq
 (.ops [
 ⟨(some 18), .move (.tmp 9), none⟩,
 ⟨(some 19), .bin .lss (.tmp 18) (.const (.int .i64 24)), none⟩,
 ⟨(some 20), .move (.tmp 19), none⟩,
 ⟨(some 21), .move (.tmp 6), (some (20, true))⟩,
 ⟨(some 22), .call 19 [(.tmp 21)], (some (20, true))⟩,
 ⟨(some 23), .pick (.tmp 20) (.tmp 22) (.const (.bool false)), none⟩])
 (.cond (.tmp 23)
 .skip
 (.exit 0)))
 (.seq
 (.block 1
 (.seq
 (.seq
 (.ops [
 ⟨(some 26), .move (.tmp 8), none⟩,
 ⟨(some 27), .lenSl (.tmp 26), none⟩,
 ⟨(some 28), .bin .gtr (.tmp 27) (.const (.int .i64 0)), none⟩,
 ⟨(some 29), .move (.tmp 28), none⟩,
 ⟨(some 30), .move (.tmp 6), (some (29, true))⟩,
 ⟨(some 31), .call 20 [(.tmp 30), (.const (.int .i64 3))], (some (29, true))⟩,
 ⟨(some 32), .bin .eql (.tmp 31) (.const (.int .i64 0)), (some (29, true))⟩,
 ⟨(some 33), .pick (.tmp 29) (.tmp 32) (.const (.bool false)), none⟩])
 (.cond (.tmp 33)
 (.seq
 (.ops [
 ⟨(some 34), .move (.tmp 6), none⟩,
 ⟨(some 35), .move (.tmp 8), none⟩,
 ⟨(some 36), .lenSl (.tmp 35), none⟩,
 ⟨(some 37), .call 20 [(.tmp 34), (.tmp 36)], none⟩,
 ⟨(some 10), .move (.tmp 37), none⟩])
 (.seq
 (.ops [
 ⟨(some 38), .move (.tmp 7), none⟩,
 ⟨(some 39), .move (.tmp 8), none⟩,
 ⟨(some 40), .move (.tmp 10), none⟩,
 ⟨(some 41), .idxSl (.tmp 39) (.tmp 40) 5, none⟩,
 ⟨(some 42), .load 5 true (.tmp 41), none⟩,
 ⟨(some 43), .call 21 [(.tmp 38), (.tmp 42)], none⟩])
 (.draw 1 [
 ⟨0, ⟨(some 44), .bslice 0 [] [], none⟩, [], 0⟩,
 ⟨1, ⟨(some 45), .move (.tmp 8), none⟩, [], 1⟩,
 ⟨2, ⟨(some 46), .move (.tmp 10), none⟩, [], 1⟩,
 ⟨3, ⟨(some 47), .slice (.tmp 45) none (some (.tmp 46)) none 5, none⟩, [1, 2], 1⟩,
 ⟨4, ⟨(some 48), .append 5 72 (.tmp 44) (.tmp 47), none⟩, [0, 3, 1, 2], 1⟩,
 ⟨5, ⟨(some 49), .move (.tmp 8), none⟩, [], 1⟩,
 ⟨6, ⟨(some 50), .move (.tmp 10), none⟩, [], 1⟩,
 ⟨7, ⟨(some 51), .bin .add (.tmp 50) (.const (.int .i64 1)), none⟩, [6], 1⟩,
 ⟨8, ⟨(some 52), .slice (.tmp 49) (some (.tmp 51)) none none 5, none⟩, [5, 7, 6], 1⟩,
 ⟨9, ⟨(some 53), .append 5 72 (.tmp 48) (.tmp 52), none⟩, [4, 0, 3, 1, 2, 8, 5, 7, 6], 1⟩,
 ⟨10, ⟨(some 8), .move (.tmp 53), none⟩, [9, 4, 0, 3, 1, 2, 8, 5, 7, 6], 1⟩])))
 (.seq
 (.draw 1 [
 ⟨0, ⟨(some 54), .move (.tmp 6), none⟩, [], 0⟩,
 ⟨1, ⟨(some 55), .load 10 true (.tmp 5), none⟩, [], 0⟩,
 ⟨2, ⟨(some 56), .move (.tmp 6), none⟩, [], 0⟩,
 ⟨3, ⟨(some 57), .call 20 [(.tmp 56), (.const (.int .i64 4))], none⟩, [2], 0⟩,
 ⟨4, ⟨(some 58), .call 22 [(.tmp 54), (.tmp 55), (.tmp 57)], none⟩, [0, 1, 3, 2], 0⟩,
 ⟨5, ⟨(some 11), .alloc [(.int .i64 0), (.slice none 0 (.fix 0)), (.int .i64 0), (.int .i64 0), (.slice none 0 (.fix 0))], none⟩, [], 0⟩,
 ⟨6, ⟨none, .store 5 (.tmp 11) (.tmp 58), none⟩, [5, 4, 0, 1, 3, 2], 1⟩])
 (.seq
 (.ops [
 ⟨(some 59), .move (.tmp 7), none⟩,
 ⟨(some 60), .load 5 true (.tmp 11), none⟩,
 ⟨(some 61), .call 17 [(.tmp 59), (.tmp 60)], none⟩])
 (.ops [
 ⟨(some 62), .move (.tmp 8), none⟩,
 ⟨(some 63), .load 5 true (.tmp 11), none⟩,
 ⟨(some 64), .bslice 1 [(.int .i64 0), (.slice none 0 (.fix 0)), (.int .i64 0), (.int .i64 0), (.slice none 0 (.fix 0))] [(0, 5, (.tmp 63))], none⟩,
 ⟨(some 65), .append 5 72 (.tmp 62) (.tmp 64), none⟩,
 ⟨(some 8), .move (.tmp 65), none⟩])))))
 (.seq
 (.draw 0 [
 ⟨0, ⟨(some 66), .move (.tmp 7), none⟩, [], 0⟩,
 ⟨1, ⟨(some 67), .call 24 [(.tmp 66)], none⟩, [0], 0⟩,
 ⟨2, ⟨(some 68), .load 10 true (.tmp 5), none⟩, [], 0⟩,
 ⟨3, ⟨(some 69), .move (.tmp 8), none⟩, [], 0⟩,
 ⟨4, ⟨(some 70), .call 25 [(.tmp 68), (.tmp 69)], none⟩, [2, 3, 1, 0], 0⟩,
 ⟨5, ⟨(some 71), .call 23 [(.tmp 67), (.tmp 70)], none⟩, [1, 0, 4, 2, 3], 0⟩,
 ⟨6, ⟨(some 72), .un .not (.tmp 71), none⟩, [5, 1, 0, 4, 2, 3], 0⟩,
 ⟨7, ⟨(some 73), .move (.tmp 72), none⟩, [6, 5, 1, 0, 4, 2, 3], 0⟩,
 ⟨8, ⟨(some 74), .move (.tmp 7), (some (73, false))⟩, [7, 6, 5, 1, 0, 4, 2, 3], 0⟩,
 ⟨9, ⟨(some 75), .call 18 [(.tmp 74)], (some (73, false))⟩, [8, 7, 6, 5, 1, 0, 4, 2, 3], 0⟩,
 ⟨10, ⟨(some 76), .load 10 true (.tmp 5), (some (73, false))⟩, [7, 6, 5, 1, 0, 4, 2, 3], 0⟩,
 ⟨11, ⟨(some 77), .move (.tmp 8), (some (73, false))⟩, [7, 6, 5, 1, 0, 4, 2, 3], 0⟩,
 ⟨12, ⟨(some 78), .call 26 [(.tmp 76), (.tmp 77)], (some (73, false))⟩, [10, 7, 6, 5, 1, 0, 4, 2, 3, 11, 9, 8], 0⟩,
 ⟨13, ⟨(some 79), .call 10 [(.tmp 75), (.tmp 78)], (some (73, false))⟩, [9, 8, 7, 6, 5, 1, 0, 4, 2, 3, 12, 10, 11], 0⟩,
 ⟨14, ⟨(some 80), .un .not (.tmp 79), (some (73, false))⟩, [13, 9, 8, 7, 6, 5, 1, 0, 4, 2, 3, 12, 10, 11], 0⟩,
 ⟨15, ⟨(some 81), .pick (.tmp 73) (.const (.bool true)) (.tmp 80), none⟩, [7, 6, 5, 1, 0, 4, 2, 3, 14, 13, 9, 8, 12, 10, 11], 0⟩])
 (.cond (.tmp 81)
 (.seq
 (.ops [
 ⟨(some 4), .move (.const (.bool false)), none⟩])
 .ret)
 .skip))))
 (.ops [
 ⟨(some 24), .move (.tmp 9), none⟩,
 ⟨(some 25), .bin .add (.tmp 24) (.const (.int .i64 1)), none⟩,
 ⟨(some 9), .move (.tmp 25), none⟩]))))))
 (.seq
 (.ops [
 ⟨(some 82), .call 15 [], none⟩,
 ⟨(some 4), .move (.tmp 82), none⟩])
 .ret))))))⟩
theorem t5_ok : goodFn Try.prog 5 = true ∧ cfn Try.prog 5 = t5 := ⟨by kernel_rfl, by kernel_rfl⟩

/-- matchguard/matchguardlaw16.referring -/
def t7 : NFn := ⟨40, [(.cell 2 10 true)],
 (.seq
 (.ops [
 ⟨(some 2), .alloc [(.slice none 0 (.fix 0)), (.slice none 0 (.fix 0)), (.slice none 0 (.fix 0)), (.slice none 0 (.fix 0)), (.slice none 0 (.fix 0)), (.slice none 0 (.fix 0)), (.slice none 0 (.fix 0)), (.slice none 0 (.fix 0)), (.int .i64 0), (.int .i64 0)], none⟩])
 (.seq
 (.ops [
 ⟨(some 4), .move (.tmp 0), none⟩,
 ⟨(some 5), .call 8 [(.tmp 4), (.const (.int .i64 120))], none⟩,
 ⟨(some 6), .call 28 [(.tmp 5)], none⟩,
 ⟨(some 3), .alloc [(.slice none 0 (.fix 0)), (.slice none 0 (.fix 0)), (.slice none 0 (.fix 0)), (.slice none 0 (.fix 0)), (.slice none 0 (.fix 0)), (.slice none 0 (.fix 0)), (.slice none 0 (.fix 0)), (.slice none 0 (.fix 0)), (.int .i64 0), (.int .i64 0)], none⟩,
 ⟨none, .store 10 (.tmp 3) (.tmp 6), none⟩])
 (.seq
 (.ops [
 ⟨(some 7), .build [(.int .i64 0), (.int .i64 0), (.int .i64 0), (.int .i64 0), (.int .i64 0), (.int .i64 0)] [(0, 1, (.const (.int .i64 2))), (2, 1, (.const (.int .i64 4))), (4, 1, (.const (.int .i64 1)))], none⟩,
 ⟨(some 8), .bslice 1 [(.int .i64 0), (.int .i64 0), (.int .i64 0), (.int .i64 0), (.int .i64 0), (.int .i64 0)] [(0, 6, (.tmp 7))], none⟩,
 ⟨(some 9), .off (.tmp 3) 7, none⟩,
 ⟨none, .store 1 (.tmp 9) (.tmp 8), none⟩])
 (.seq
 (.seq
 (.ops [
 ⟨(some 10), .off (.tmp 3) 4, none⟩,
 ⟨(some 11), .load 1 false (.tmp 10), none⟩,
 ⟨(some 12), .idxSl (.tmp 11) (.const (.int .i64 2)) 8, none⟩,
 ⟨(some 13), .off (.tmp 12) 2, none⟩,
 ⟨(some 14), .load 1 false (.tmp 13), none⟩,
 ⟨(some 15), .lenSl (.tmp 14), none⟩,
 ⟨(some 16), .bin .eql (.tmp 15) (.const (.int .i64 3)), none⟩])
 (.cond (.tmp 16)
 (.ops [
 ⟨(some 17), .off (.tmp 3) 7, none⟩,
 ⟨(some 18), .load 1 false (.tmp 17), none⟩,
 ⟨(some 19), .build [(.int .i64 0), (.int .i64 0), (.int .i64 0), (.int .i64 0), (.int .i64 0), (.int .i64 0)] [(0, 1, (.const (.int .i64 3))), (1, 1, (.const (.int .i64 2))), (4, 1, (.const (.int .i64 1)))], none⟩,
 ⟨(some 20), .build [(.int .i64 0), (.int .i64 0), (.int .i64 0), (.int .i64 0), (.int .i64 0), (.int .i64 0)] [(0, 1, (.const (.int .i64 3))), (2, 1, (.const (.int .i64 5))), (4, 1, (.const (.int .i64 1)))], none⟩,
 ⟨(some 21), .bslice 2 [(.int .i64 0), (.int .i64 0), (.int .i64 0), (.int .i64 0), (.int .i64 0), (.int .i64 0), (.int .i64 0), (.int .i64 0), (.int .i64 0), (.int .i64 0), (.int .i64 0), (.int .i64 0)] [(0, 6, (.tmp 19)), (6, 6, (.tmp 20))], none⟩,
 ⟨(some 22), .append 6 48 (.tmp 18) (.tmp 21), none⟩,
 ⟨(some 23), .off (.tmp 3) 7, none⟩,
 ⟨none, .store 1 (.tmp 23) (.tmp 22), none⟩])
 .skip))
 (.seq
 (.seq
 (.ops [
 ⟨(some 24), .off (.tmp 3) 4, none⟩,
 ⟨(some 25), .load 1 false (.tmp 24), none⟩,
 ⟨(some 26), .idxSl (.tmp 25) (.const (.int .i64 3)) 8, none⟩,
 ⟨(some 27), .off (.tmp 26) 2, none⟩,
 ⟨(some 28), .load 1 false (.tmp 27), none⟩,
 ⟨(some 29), .lenSl (.tmp 28), none⟩,
 ⟨(some 30), .bin .eql (.tmp 29) (.const (.int .i64 3)), none⟩])
 (.cond (.tmp 30)
 (.ops [
 ⟨(some 31), .off (.tmp 3) 7, none⟩,
 ⟨(some 32), .load 1 false (.tmp 31), none⟩,
 ⟨(some 33), .build [(.int .i64 0), (.int .i64 0), (.int .i64 0), (.int .i64 0), (.int .i64 0), (.int .i64 0)] [(0, 1, (.const (.int .i64 4))), (1, 1, (.const (.int .i64 1))), (4, 1, (.const (.int .i64 1)))], none⟩,
 ⟨(some 34), .build [(.int .i64 0), (.int .i64 0), (.int .i64 0), (.int .i64 0), (.int .i64 0), (.int .i64 0)] [(0, 1, (.const (.int .i64 4))), (2, 1, (.const (.int .i64 5))), (4, 1, (.const (.int .i64 1)))], none⟩,
 ⟨(some 35), .build [(.int .i64 0), (.int .i64 0), (.int .i64 0), (.int .i64 0), (.int .i64 0), (.int .i64 0)] [(0, 1, (.const (.int .i64 4))), (1, 1, (.const (.int .i64 1))), (4, 1, (.const (.int .i64 1)))], none⟩,
 ⟨(some 36), .bslice 3 [(.int .i64 0), (.int .i64 0), (.int .i64 0), (.int .i64 0), (.int .i64 0), (.int .i64 0), (.int .i64 0), (.int .i64 0), (.int .i64 0), (.int .i64 0), (.int .i64 0), (.int .i64 0), (.int .i64 0), (.int .i64 0), (.int .i64 0), (.int .i64 0), (.int .i64 0), (.int .i64 0)] [(0, 6, (.tmp 33)), (6, 6, (.tmp 34)), (12, 6, (.tmp 35))], none⟩,
 ⟨(some 37), .append 6 48 (.tmp 32) (.tmp 36), none⟩,
 ⟨(some 38), .off (.tmp 3) 7, none⟩,
 ⟨none, .store 1 (.tmp 38) (.tmp 37), none⟩])
 .skip))
 (.seq
 (.ops [
 ⟨(some 39), .load 10 true (.tmp 3), none⟩,
 ⟨none, .store 10 (.tmp 2) (.tmp 39), none⟩])
 .ret))))))⟩
theorem t7_ok : goodFn Try.prog 7 = true ∧ cfn Try.prog 7 = t7 := ⟨by kernel_rfl, by kernel_rfl⟩

/-- matchguard/matchguardcase.New -/
def t8 : NFn := ⟨13, [(.tmp 4)],
 (.seq
 (.ops [
 ⟨(some 4), .move (.const (.ptr none)), none⟩])
 (.seq
 (.ops [
 ⟨(some 5), .move (.tmp 0), none⟩,
 ⟨(some 6), .move (.tmp 0), none⟩,
 ⟨(some 7), .lenSl (.tmp 6), none⟩,
 ⟨(some 8), .move (.tmp 1), none⟩,
 ⟨(some 9), .minmax false [(.tmp 7), (.tmp 8)], none⟩,
 ⟨(some 10), .slice (.tmp 5) none (some (.tmp 9)) none 1, none⟩,
 ⟨(some 11), .build [(.slice none 0 (.fix 0)), (.int .i64 0)] [(0, 1, (.tmp 10))], none⟩,
 ⟨(some 12), .box (.tmp 11), none⟩,
 ⟨(some 4), .move (.tmp 12), none⟩])
 .ret))⟩
theorem t8_ok : goodFn Try.prog 8 = true ∧ cfn Try.prog 8 = t8 := ⟨by kernel_rfl, by kernel_rfl⟩

/-- matchguard/matchguardlaw16.targets -/
def t10 : NFn := ⟨32, [(.tmp 4)],
 (.seq
 (.ops [
 ⟨(some 4), .move (.const (.bool false)), none⟩])
 (.seq
 (.seq
 (.ops [
 ⟨(some 7), .move (.tmp 0), none⟩,
 ⟨(some 8), .lenSl (.tmp 7), none⟩,
 ⟨(some 9), .move (.tmp 1), none⟩,
 ⟨(some 10), .lenSl (.tmp 9), none⟩,
 ⟨(some 11), .bin .neq (.tmp 8) (.tmp 10), none⟩])
 (.cond (.tmp 11)
 (.seq
 (.ops [
 ⟨(some 4), .move (.const (.bool false)), none⟩])
 .ret)
 .skip))
 (.seq
 (.seq
 (.ops [
 ⟨(some 12), .move (.tmp 0), none⟩,
 ⟨(some 13), .lenSl (.tmp 12), none⟩,
 ⟨(some 14), .move (.const (.int .i64 0)), none⟩])
 (.block 0
 (.loop
 (.seq
 (.ops [
 ⟨(some 15), .bin .lss (.tmp 14) (.tmp 13), none⟩])
 (.seq
 (.cond (.tmp 15)
 .skip
 (.exit 0))
 (.seq
 (.block 1
 (.seq
 (.ops [
 ⟨(some 16), .move (.tmp 14), none⟩,
 ⟨(some 17), .idxSl (.tmp 12) (.tmp 14) 4, none⟩,
 ⟨(some 18), .load 4 true (.tmp 17), none⟩,
 ⟨(some 6), .alloc [(.int .i64 0), (.int .i64 0), (.int .u64 0), (.int .u64 0)], none⟩,
 ⟨(some 5), .move (.tmp 16), none⟩,
 ⟨none, .store 4 (.tmp 6) (.tmp 18), none⟩])
 (.seq
 (.draw 0 [
 ⟨0, ⟨(some 19), .off (.tmp 6) 0, none⟩, [], 0⟩,
 ⟨1, ⟨(some 20), .load 1 false (.tmp 19), none⟩, [0], 0⟩,
 ⟨2, ⟨(some 21), .off (.tmp 6) 1, none⟩, [], 0⟩,
 ⟨3, ⟨(some 22), .load 1 false (.tmp 21), none⟩, [2], 0⟩,
 ⟨4, ⟨(some 23), .off (.tmp 6) 2, none⟩, [], 0⟩,
 ⟨5, ⟨(some 24), .load 2 true (.tmp 23), none⟩, [4], 0⟩,
 ⟨6, ⟨(some 25), .build [(.int .i64 0), (.int .i64 0), (.int .u64 0), (.int .u64 0)] [(0, 1, (.tmp 20)), (1, 1, (.tmp 22)), (2, 2, (.tmp 24))], none⟩, [1, 0, 3, 2, 5, 4], 0⟩,
 ⟨7, ⟨(some 26), .move (.tmp 1), none⟩, [], 0⟩,
 ⟨8, ⟨(some 27), .move (.tmp 5), none⟩, [], 0⟩,
 ⟨9, ⟨(some 28), .idxSl (.tmp 26) (.tmp 27) 4, none⟩, [7, 8], 0⟩,
 ⟨10, ⟨(some 29), .load 4 true (.tmp 28), none⟩, [9, 7, 8], 0⟩,
 ⟨11, ⟨(some 30), .eq true true [.int, .int, .int, .int] (.tmp 25) (.tmp 29), none⟩, [6, 1, 0, 3, 2, 5, 4, 10, 9, 7, 8], 0⟩])
 (.cond (.tmp 30)
 (.seq
 (.ops [
 ⟨(some 4), .move (.const (.bool false)), none⟩])
 .ret)
 .skip))))
 (.ops [
 ⟨(some 31), .bin .add (.tmp 14) (.const (.int .i64 1)), none⟩,
 ⟨(some 14), .move (.tmp 31), none⟩])))))))
 (.seq
 (.ops [
 ⟨(some 4), .move (.const (.bool true)), none⟩])
 .ret))))⟩
theorem t10_ok : goodFn Try.prog 10 = true ∧ cfn Try.prog 10 = t10 := ⟨by kernel_rfl, by kernel_rfl⟩

/-- matchguard/refs.Needs -/
def t11 : NFn := ⟨57, [(.tmp 4)],
 (.seq
 (.ops [
 ⟨(some 2), .box (.tmp 0), none⟩,
 ⟨(some 3), .box (.tmp 1), none⟩,
 ⟨(some 4), .move (.const (.slice none 0 (.fix 0))), none⟩])
 (.seq
 (.ops [
 ⟨(some 5), .move (.const (.slice none 0 (.fix 0))), none⟩])
 (.seq
 (.seq
 (.ops [
 ⟨(some 8), .off (.tmp 2) 7, none⟩,
 ⟨(some 9), .load 1 false (.tmp 8), none⟩,
 ⟨(some 10), .lenSl (.tmp 9), none⟩,
 ⟨(some 11), .move (.const (.int .i64 0)), none⟩])
 (.block 0
 (.loop
 (.seq
 (.ops [
 ⟨(some 12), .bin .lss (.tmp 11) (.tmp 10), none⟩])
 (.seq
 (.cond (.tmp 12)
 .skip
 (.exit 0))
 (.seq
 (.block 1
 (.seq
 (.ops [
 ⟨(some 13), .idxSl (.tmp 9) (.tmp 11) 6, none⟩,
 ⟨(some 14), .load 6 true (.tmp 13), none⟩,
 ⟨(some 7), .alloc [(.int .i64 0), (.int .i64 0), (.int .i64 0), (.int .i64 0), (.int .i64 0), (.int .i64 0)], none⟩,
 ⟨none, .store 6 (.tmp 7) (.tmp 14), none⟩])
 (.block 2
 (.seq
 (.ops [
 ⟨(some 16), .off (.tmp 7) 0, none⟩,
 ⟨(some 17), .load 1 false (.tmp 16), none⟩,
 ⟨(some 18), .off (.tmp 3) 0, none⟩,
 ⟨(some 19), .load 1 false (.tmp 18), none⟩,
 ⟨(some 20), .bin .neq (.tmp 17) (.tmp 19), none⟩,
 ⟨(some 15), .move (.tmp 20), none⟩])
 (.cond (.tmp 15)
 .skip
 (.seq
 (.ops [
 ⟨(some 22), .off (.tmp 7) 2, none⟩,
 ⟨(some 23), .load 1 false (.tmp 22), none⟩,
 ⟨(some 24), .bin .eql (.tmp 23) (.const (.int .i64 0)), none⟩,
 ⟨(some 21), .move (.tmp 24), none⟩])
 (.cond (.tmp 21)
 (.draw 1 [
 ⟨0, ⟨(some 25), .move (.tmp 5), none⟩, [], 0⟩,
 ⟨1, ⟨(some 26), .off (.tmp 7) 4, none⟩, [], 0⟩,
 ⟨2, ⟨(some 27), .load 1 false (.tmp 26), none⟩, [1], 0⟩,
 ⟨3, ⟨(some 28), .off (.tmp 7) 5, none⟩, [], 0⟩,
 ⟨4, ⟨(some 29), .load 1 false (.tmp 28), none⟩, [3], 0⟩,
 ⟨5, ⟨(some 30), .load 5 true (.tmp 3), none⟩, [], 0⟩,
 ⟨6, ⟨(some 31), .off (.tmp 7) 1, none⟩, [], 0⟩,
 ⟨7, ⟨(some 32), .load 1 false (.tmp 31), none⟩, [6], 0⟩,
 ⟨8, ⟨(some 33), .call 29 [(.tmp 30), (.tmp 32)], none⟩, [5, 7, 6], 0⟩,
 ⟨9, ⟨(some 34), .build [(.int .i64 0), (.int .i64 0), (.int .u64 0), (.int .u64 0)] [(0, 1, (.tmp 27)), (1, 1, (.tmp 29)), (2, 2, (.tmp 33))], none⟩, [2, 1, 4, 3, 8, 5, 7, 6], 0⟩,
 ⟨10, ⟨(some 35), .bslice 1 [(.int .i64 0), (.int .i64 0), (.int .u64 0), (.int .u64 0)] [(0, 4, (.tmp 34))], none⟩, [9, 2, 1, 4, 3, 8, 5, 7, 6], 0⟩,
 ⟨11, ⟨(some 36), .append 4 32 (.tmp 25) (.tmp 35), none⟩, [0, 10, 9, 2, 1, 4, 3, 8, 5, 7, 6], 1⟩,
 ⟨12, ⟨(some 5), .move (.tmp 36), none⟩, [11, 0, 10, 9, 2, 1, 4, 3, 8, 5, 7, 6], 1⟩])
 (.seq
 (.ops [
 ⟨(some 38), .off (.tmp 7) 2, none⟩,
 ⟨(some 39), .load 1 false (.tmp 38), none⟩,
 ⟨(some 40), .off (.tmp 3) 3, none⟩,
 ⟨(some 41), .load 1 false (.tmp 40), none⟩,
 ⟨(some 42), .bin .eql (.tmp 39) (.tmp 41), none⟩,
 ⟨(some 37), .move (.tmp 42), none⟩])
 (.cond (.tmp 37)
 (.draw 1 [
 ⟨0, ⟨(some 43), .move (.tmp 5), none⟩, [], 0⟩,
 ⟨1, ⟨(some 44), .off (.tmp 7) 4, none⟩, [], 0⟩,
 ⟨2, ⟨(some 45), .load 1 false (.tmp 44), none⟩, [1], 0⟩,
 ⟨3, ⟨(some 46), .off (.tmp 7) 5, none⟩, [], 0⟩,
 ⟨4, ⟨(some 47), .load 1 false (.tmp 46), none⟩, [3], 0⟩,
 ⟨5, ⟨(some 48), .load 5 true (.tmp 3), none⟩, [], 0⟩,
 ⟨6, ⟨(some 49), .off (.tmp 7) 3, none⟩, [], 0⟩,
 ⟨7, ⟨(some 50), .load 1 false (.tmp 49), none⟩, [6], 0⟩,
 ⟨8, ⟨(some 51), .call 30 [(.tmp 48), (.tmp 50)], none⟩, [5, 7, 6], 0⟩,
 ⟨9, ⟨(some 52), .build [(.int .i64 0), (.int .i64 0), (.int .u64 0), (.int .u64 0)] [(0, 1, (.tmp 45)), (1, 1, (.tmp 47)), (2, 2, (.tmp 51))], none⟩, [2, 1, 4, 3, 8, 5, 7, 6], 0⟩,
 ⟨10, ⟨(some 53), .bslice 1 [(.int .i64 0), (.int .i64 0), (.int .u64 0), (.int .u64 0)] [(0, 4, (.tmp 52))], none⟩, [9, 2, 1, 4, 3, 8, 5, 7, 6], 0⟩,
 ⟨11, ⟨(some 54), .append 4 32 (.tmp 43) (.tmp 53), none⟩, [0, 10, 9, 2, 1, 4, 3, 8, 5, 7, 6], 1⟩,
 ⟨12, ⟨(some 5), .move (.tmp 54), none⟩, [11, 0, 10, 9, 2, 1, 4, 3, 8, 5, 7, 6], 1⟩])
 .skip)))))))))
 (.ops [
 ⟨(some 55), .bin .add (.tmp 11) (.const (.int .i64 1)), none⟩,
 ⟨(some 11), .move (.tmp 55), none⟩])))))))
 (.seq
 (.ops [
 ⟨(some 56), .move (.tmp 5), none⟩,
 ⟨(some 4), .move (.tmp 56), none⟩])
 .ret))))⟩
theorem t11_ok : goodFn Try.prog 11 = true ∧ cfn Try.prog 11 = t11 := ⟨by kernel_rfl, by kernel_rfl⟩

/-- matchguard/matchguardref16.Needs -/
def t12 : NFn := ⟨62, [(.tmp 4)],
 (.seq
 (.ops [
 ⟨(some 2), .box (.tmp 0), none⟩,
 ⟨(some 3), .box (.tmp 1), none⟩,
 ⟨(some 4), .move (.const (.slice none 0 (.fix 0))), none⟩])
 (.seq
 (.ops [
 ⟨(some 5), .move (.const (.slice none 0 (.fix 0))), none⟩])
 (.seq
 (.seq
 (.ops [
 ⟨(some 8), .off (.tmp 2) 7, none⟩,
 ⟨(some 9), .load 1 false (.tmp 8), none⟩,
 ⟨(some 10), .lenSl (.tmp 9), none⟩,
 ⟨(some 11), .move (.const (.int .i64 0)), none⟩])
 (.block 0
 (.loop
 (.seq
 (.ops [
 ⟨(some 12), .bin .lss (.tmp 11) (.tmp 10), none⟩])
 (.seq
 (.cond (.tmp 12)
 .skip
 (.exit 0))
 (.seq
 (.block 1
 (.seq
 (.ops [
 ⟨(some 13), .idxSl (.tmp 9) (.tmp 11) 6, none⟩,
 ⟨(some 14), .load 6 true (.tmp 13), none⟩,
 ⟨(some 7), .alloc [(.int .i64 0), (.int .i64 0), (.int .i64 0), (.int .i64 0), (.int .i64 0), (.int .i64 0)], none⟩,
 ⟨none, .store 6 (.tmp 7) (.tmp 14), none⟩])
 (.block 2
 (.seq
 (.ops [
 ⟨(some 16), .off (.tmp 7) 0, none⟩,
 ⟨(some 17), .load 1 false (.tmp 16), none⟩,
 ⟨(some 18), .off (.tmp 3) 0, none⟩,
 ⟨(some 19), .load 1 false (.tmp 18), none⟩,
 ⟨(some 20), .bin .neq (.tmp 17) (.tmp 19), none⟩,
 ⟨(some 15), .move (.tmp 20), none⟩])
 (.cond (.tmp 15)
 .skip
 (.seq
 (.ops [
 ⟨(some 22), .off (.tmp 7) 2, none⟩,
 ⟨(some 23), .load 1 false (.tmp 22), none⟩,
 ⟨(some 24), .bin .eql (.tmp 23) (.const (.int .i64 0)), none⟩,
 ⟨(some 21), .move (.tmp 24), none⟩])
 (.cond (.tmp 21)
 (.draw 1 [
 ⟨0, ⟨(some 25), .move (.tmp 5), none⟩, [], 0⟩,
 ⟨1, ⟨(some 26), .off (.tmp 7) 4, none⟩, [], 0⟩,
 ⟨2, ⟨(some 27), .load 1 false (.tmp 26), none⟩, [1], 0⟩,
 ⟨3, ⟨(some 28), .off (.tmp 7) 5, none⟩, [], 0⟩,
 ⟨4, ⟨(some 29), .load 1 false (.tmp 28), none⟩, [3], 0⟩,
 ⟨5, ⟨(some 30), .off (.tmp 3) 1, none⟩, [], 0⟩,
 ⟨6, ⟨(some 31), .load 1 false (.tmp 30), none⟩, [5], 0⟩,
 ⟨7, ⟨(some 32), .off (.tmp 7) 1, none⟩, [], 0⟩,
 ⟨8, ⟨(some 33), .load 1 false (.tmp 32), none⟩, [7], 0⟩,
 ⟨9, ⟨(some 34), .idxSl (.tmp 31) (.tmp 33) 8, none⟩, [6, 5, 8, 7], 0⟩,
 ⟨10, ⟨(some 35), .off (.tmp 34) 1, none⟩, [9, 6, 5, 8, 7], 0⟩,
 ⟨11, ⟨(some 36), .load 2 true (.tmp 35), none⟩, [10, 9, 6, 5, 8, 7], 0⟩,
 ⟨12, ⟨(some 37), .build [(.int .i64 0), (.int .i64 0), (.int .u64 0), (.int .u64 0)] [(0, 1, (.tmp 27)), (1, 1, (.tmp 29)), (2, 2, (.tmp 36))], none⟩, [2, 1, 4, 3, 11, 10, 9, 6, 5, 8, 7], 0⟩,
 ⟨13, ⟨(some 38), .bslice 1 [(.int .i64 0), (.int .i64 0), (.int .u64 0), (.int .u64 0)] [(0, 4, (.tmp 37))], none⟩, [12, 2, 1, 4, 3, 11, 10, 9, 6, 5, 8, 7], 0⟩,
 ⟨14, ⟨(some 39), .append 4 32 (.tmp 25) (.tmp 38), none⟩, [0, 13, 12, 2, 1, 4, 3, 11, 10, 9, 6, 5, 8, 7], 1⟩,
 ⟨15, ⟨(some 5), .move (.tmp 39), none⟩, [14, 0, 13, 12, 2, 1, 4, 3, 11, 10, 9, 6, 5, 8, 7], 1⟩])
 (.seq
 (.ops [
 ⟨(some 41), .off (.tmp 7) 2, none⟩,
 ⟨(some 42), .load 1 false (.tmp 41), none⟩,
 ⟨(some 43), .off (.tmp 3) 3, none⟩,
 ⟨(some 44), .load 1 false (.tmp 43), none⟩,
 ⟨(some 45), .bin .eql (.tmp 42) (.tmp 44), none⟩,
 ⟨(some 40), .move (.tmp 45), none⟩])
 (.cond (.tmp 40)
 (.draw 1 [
 ⟨0, ⟨(some 46), .move (.tmp 5), none⟩, [], 0⟩,
 ⟨1, ⟨(some 47), .off (.tmp 7) 4, none⟩, [], 0⟩,
 ⟨2, ⟨(some 48), .load 1 false (.tmp 47), none⟩, [1], 0⟩,
 ⟨3, ⟨(some 49), .off (.tmp 7) 5, none⟩, [], 0⟩,
 ⟨4, ⟨(some 50), .load 1 false (.tmp 49), none⟩, [3], 0⟩,
 ⟨5, ⟨(some 51), .off (.tmp 3) 4, none⟩, [], 0⟩,
 ⟨6, ⟨(some 52), .load 1 false (.tmp 51), none⟩, [5], 0⟩,
 ⟨7, ⟨(some 53), .off (.tmp 7) 3, none⟩, [], 0⟩,
 ⟨8, ⟨(some 54), .load 1 false (.tmp 53), none⟩, [7], 0⟩,
 ⟨9, ⟨(some 55), .idxSl (.tmp 52) (.tmp 54) 2, none⟩, [6, 5, 8, 7], 0⟩,
 ⟨10, ⟨(some 56), .load 2 true (.tmp 55), none⟩, [9, 6, 5, 8, 7], 0⟩,
 ⟨11, ⟨(some 57), .build [(.int .i64 0), (.int .i64 0), (.int .u64 0), (.int .u64 0)] [(0, 1, (.tmp 48)), (1, 1, (.tmp 50)), (2, 2, (.tmp 56))], none⟩, [2, 1, 4, 3, 10, 9, 6, 5, 8, 7], 0⟩,
 ⟨12, ⟨(some 58), .bslice 1 [(.int .i64 0), (.int .i64 0), (.int .u64 0), (.int .u64 0)] [(0, 4, (.tmp 57))], none⟩, [11, 2, 1, 4, 3, 10, 9, 6, 5, 8, 7], 0⟩,
 ⟨13, ⟨(some 59), .append 4 32 (.tmp 46) (.tmp 58), none⟩, [0, 12, 11, 2, 1, 4, 3, 10, 9, 6, 5, 8, 7], 1⟩,
 ⟨14, ⟨(some 5), .move (.tmp 59), none⟩, [13, 0, 12, 11, 2, 1, 4, 3, 10, 9, 6, 5, 8, 7], 1⟩])
 .skip)))))))))
 (.ops [
 ⟨(some 60), .bin .add (.tmp 11) (.const (.int .i64 1)), none⟩,
 ⟨(some 11), .move (.tmp 60), none⟩])))))))
 (.seq
 (.ops [
 ⟨(some 61), .move (.tmp 5), none⟩,
 ⟨(some 4), .move (.tmp 61), none⟩])
 .ret))))⟩
theorem t12_ok : goodFn Try.prog 12 = true ∧ cfn Try.prog 12 = t12 := ⟨by kernel_rfl, by kernel_rfl⟩

/-- matchguard/refs.Provides -/
def t13 : NFn := ⟨42, [(.tmp 4)],
 (.seq
 (.ops [
 ⟨(some 2), .box (.tmp 0), none⟩,
 ⟨(some 3), .box (.tmp 1), none⟩,
 ⟨(some 4), .move (.const (.slice none 0 (.fix 0))), none⟩])
 (.seq
 (.ops [
 ⟨(some 5), .move (.const (.slice none 0 (.fix 0))), none⟩])
 (.seq
 (.seq
 (.ops [
 ⟨(some 9), .off (.tmp 2) 7, none⟩,
 ⟨(some 10), .load 1 false (.tmp 9), none⟩,
 ⟨(some 11), .lenSl (.tmp 10), none⟩,
 ⟨(some 12), .move (.const (.int .i64 0)), none⟩])
 (.block 0
 (.loop
 (.seq
 (.ops [
 ⟨(some 13), .bin .lss (.tmp 12) (.tmp 11), none⟩])
 (.seq
 (.cond (.tmp 13)
 .skip
 (.exit 0))
 (.seq
 (.block 1
 (.seq
 (.ops [
 ⟨(some 14), .idxSl (.tmp 10) (.tmp 12) 6, none⟩,
 ⟨(some 15), .load 6 true (.tmp 14), none⟩,
 ⟨(some 7), .alloc [(.int .i64 0), (.int .i64 0), (.int .i64 0), (.int .i64 0), (.int .i64 0), (.int .i64 0)], none⟩,
 ⟨none, .store 6 (.tmp 7) (.tmp 15), none⟩])
 (.seq
 (.draw 1 [
 ⟨0, ⟨(some 16), .off (.tmp 7) 4, none⟩, [], 0⟩,
 ⟨1, ⟨(some 17), .load 1 false (.tmp 16), none⟩, [0], 0⟩,
 ⟨2, ⟨(some 18), .off (.tmp 7) 5, none⟩, [], 0⟩,
 ⟨3, ⟨(some 19), .load 1 false (.tmp 18), none⟩, [2], 0⟩,
 ⟨4, ⟨(some 20), .load 5 true (.tmp 3), none⟩, [], 0⟩,
 ⟨5, ⟨(some 21), .off (.tmp 7) 5, none⟩, [], 0⟩,
 ⟨6, ⟨(some 22), .load 1 false (.tmp 21), none⟩, [5], 0⟩,
 ⟨7, ⟨(some 23), .call 29 [(.tmp 20), (.tmp 22)], none⟩, [4, 6, 5], 0⟩,
 ⟨8, ⟨(some 24), .build [(.int .i64 0), (.int .i64 0), (.int .u64 0), (.int .u64 0)] [(0, 1, (.tmp 17)), (1, 1, (.tmp 19)), (2, 2, (.tmp 23))], none⟩, [1, 0, 3, 2, 7, 4, 6, 5], 0⟩,
 ⟨9, ⟨(some 8), .alloc [(.int .i64 0), (.int .i64 0), (.int .u64 0), (.int .u64 0)], none⟩, [], 0⟩,
 ⟨10, ⟨none, .store 4 (.tmp 8) (.tmp 24), none⟩, [9, 8, 1, 0, 3, 2, 7, 4, 6, 5], 1⟩])
 (.seq
 (.ops [
 ⟨(some 25), .off (.tmp 7) 4, none⟩,
 ⟨(some 26), .load 1 false (.tmp 25), none⟩,
 ⟨(some 27), .off (.tmp 3) 0, none⟩,
 ⟨(some 28), .load 1 false (.tmp 27), none⟩,
 ⟨(some 29), .bin .eql (.tmp 26) (.tmp 28), none⟩,
 ⟨(some 30), .move (.tmp 29), none⟩,
 ⟨(some 31), .move (.tmp 5), (some (30, true))⟩,
 ⟨(some 32), .load 4 true (.tmp 8), (some (30, true))⟩,
 ⟨(some 33), .call 31 [(.tmp 31), (.tmp 32)], (some (30, true))⟩,
 ⟨(some 34), .un .not (.tmp 33), (some (30, true))⟩,
 ⟨(some 35), .pick (.tmp 30) (.tmp 34) (.const (.bool false)), none⟩])
 (.cond (.tmp 35)
 (.ops [
 ⟨(some 36), .move (.tmp 5), none⟩,
 ⟨(some 37), .load 4 true (.tmp 8), none⟩,
 ⟨(some 38), .bslice 1 [(.int .i64 0), (.int .i64 0), (.int .u64 0), (.int .u64 0)] [(0, 4, (.tmp 37))], none⟩,
 ⟨(some 39), .append 4 32 (.tmp 36) (.tmp 38), none⟩,
 ⟨(some 5), .move (.tmp 39), none⟩])
 .skip)))))
 (.ops [
 ⟨(some 40), .bin .add (.tmp 12) (.const (.int .i64 1)), none⟩,
 ⟨(some 12), .move (.tmp 40), none⟩])))))))
 (.seq
 (.ops [
 ⟨(some 41), .move (.tmp 5), none⟩,
 ⟨(some 4), .move (.tmp 41), none⟩])
 .ret))))⟩
theorem t13_ok : goodFn Try.prog 13 = true ∧ cfn Try.prog 13 = t13 := ⟨by kernel_rfl, by kernel_rfl⟩

/-- matchguard/matchguardref16.Provides -/
def t14 : NFn := ⟨57, [(.tmp 4)],
 (.seq
 (.ops [
 ⟨(some 2), .box (.tmp 0), none⟩,
 ⟨(some 3), .box (.tmp 1), none⟩,
 ⟨(some 4), .move (.const (.slice none 0 (.fix 0))), none⟩])
 (.seq
 (.ops [
 ⟨(some 5), .move (.const (.slice none 0 (.fix 0))), none⟩])
 (.seq
 (.seq
 (.ops [
 ⟨(some 12), .off (.tmp 2) 7, none⟩,
 ⟨(some 13), .load 1 false (.tmp 12), none⟩,
 ⟨(some 14), .lenSl (.tmp 13), none⟩,
 ⟨(some 15), .move (.const (.int .i64 0)), none⟩])
 (.block 0
 (.loop
 (.seq
 (.ops [
 ⟨(some 16), .bin .lss (.tmp 15) (.tmp 14), none⟩])
 (.seq
 (.cond (.tmp 16)
 .skip
 (.exit 0))
 (.seq
 (.block 1
 (.seq
 (.ops [
 ⟨(some 17), .idxSl (.tmp 13) (.tmp 15) 6, none⟩,
 ⟨(some 18), .load 6 true (.tmp 17), none⟩,
 ⟨(some 7), .alloc [(.int .i64 0), (.int .i64 0), (.int .i64 0), (.int .i64 0), (.int .i64 0), (.int .i64 0)], none⟩,
 ⟨none, .store 6 (.tmp 7) (.tmp 18), none⟩])
 (.seq
 (.seq
 (.ops [
 ⟨(some 19), .off (.tmp 7) 4, none⟩,
 ⟨(some 20), .load 1 false (.tmp 19), none⟩,
 ⟨(some 21), .off (.tmp 3) 0, none⟩,
 ⟨(some 22), .load 1 false (.tmp 21), none⟩,
 ⟨(some 23), .bin .neq (.tmp 20) (.tmp 22), none⟩])
 (.cond (.tmp 23)
 (.exit 1)
 .skip))
 (.seq
 (.draw 1 [
 ⟨0, ⟨(some 24), .off (.tmp 7) 4, none⟩, [], 0⟩,
 ⟨1, ⟨(some 25), .load 1 false (.tmp 24), none⟩, [0], 0⟩,
 ⟨2, ⟨(some 26), .off (.tmp 7) 5, none⟩, [], 0⟩,
 ⟨3, ⟨(some 27), .load 1 false (.tmp 26), none⟩, [2], 0⟩,
 ⟨4, ⟨(some 28), .off (.tmp 3) 1, none⟩, [], 0⟩,
 ⟨5, ⟨(some 29), .load 1 false (.tmp 28), none⟩, [4], 0⟩,
 ⟨6, ⟨(some 30), .off (.tmp 7) 5, none⟩, [], 0⟩,
 ⟨7, ⟨(some 31), .load 1 false (.tmp 30), none⟩, [6], 0⟩,
 ⟨8, ⟨(some 32), .idxSl (.tmp 29) (.tmp 31) 8, none⟩, [5, 4, 7, 6], 0⟩,
 ⟨9, ⟨(some 33), .off (.tmp 32) 1, none⟩, [8, 5, 4, 7, 6], 0⟩,
 ⟨10, ⟨(some 34), .load 2 true (.tmp 33), none⟩, [9, 8, 5, 4, 7, 6], 0⟩,
 ⟨11, ⟨(some 35), .build [(.int .i64 0), (.int .i64 0), (.int .u64 0), (.int .u64 0)] [(0, 1, (.tmp 25)), (1, 1, (.tmp 27)), (2, 2, (.tmp 34))], none⟩, [1, 0, 3, 2, 10, 9, 8, 5, 4, 7, 6], 0⟩,
 ⟨12, ⟨(some 8), .alloc [(.int .i64 0), (.int .i64 0), (.int .u64 0), (.int .u64 0)], none⟩, [], 0⟩,
 ⟨13, ⟨none, .store 4 (.tmp 8) (.tmp 35), none⟩, [12, 11, 1, 0, 3, 2, 10, 9, 8, 5, 4, 7, 6], 1⟩])
 (.seq
 (.ops [
 ⟨(some 9), .move (.const (.bool false)), none⟩])
 (.seq
 (.seq
 (.ops [
 ⟨(some 36), .move (.tmp 5), none⟩,
 ⟨(some 37), .lenSl (.tmp 36), none⟩,
 ⟨(some 38), .move (.const (.int .i64 0)), none⟩])
 (.block 2
 (.loop
 (.seq
 (.ops [
 ⟨(some 39), .bin .lss (.tmp 38) (.tmp 37), none⟩])
 (.seq
 (.cond (.tmp 39)
 .skip
 (.exit 2))
 (.seq
 (.block 3
 (.seq
 (.ops [
 ⟨(some 40), .idxSl (.tmp 36) (.tmp 38) 4, none⟩,
 ⟨(some 41), .load 4 true (.tmp 40), none⟩,
 ⟨(some 11), .alloc [(.int .i64 0), (.int .i64 0), (.int .u64 0), (.int .u64 0)], none⟩,
 ⟨none, .store 4 (.tmp 11) (.tmp 41), none⟩])
 (.ops [
 ⟨(some 42), .move (.tmp 9), none⟩,
 ⟨(some 43), .move (.tmp 42), none⟩,
 ⟨(some 44), .load 4 true (.tmp 11), (some (43, false))⟩,
 ⟨(some 45), .load 4 true (.tmp 8), (some (43, false))⟩,
 ⟨(some 46), .eq false true [.int, .int, .int, .int] (.tmp 44) (.tmp 45), (some (43, false))⟩,
 ⟨(some 47), .pick (.tmp 43) (.const (.bool true)) (.tmp 46), none⟩,
 ⟨(some 9), .move (.tmp 47), none⟩])))
 (.ops [
 ⟨(some 48), .bin .add (.tmp 38) (.const (.int .i64 1)), none⟩,
 ⟨(some 38), .move (.tmp 48), none⟩])))))))
 (.seq
 (.ops [
 ⟨(some 49), .move (.tmp 9), none⟩,
 ⟨(some 50), .un .not (.tmp 49), none⟩])
 (.cond (.tmp 50)
 (.ops [
 ⟨(some 51), .move (.tmp 5), none⟩,
 ⟨(some 52), .load 4 true (.tmp 8), none⟩,
 ⟨(some 53), .bslice 1 [(.int .i64 0), (.int .i64 0), (.int .u64 0), (.int .u64 0)] [(0, 4, (.tmp 52))], none⟩,
 ⟨(some 54), .append 4 32 (.tmp 51) (.tmp 53), none⟩,
 ⟨(some 5), .move (.tmp 54), none⟩])
 .skip))))))))
 (.ops [
 ⟨(some 55), .bin .add (.tmp 15) (.const (.int .i64 1)), none⟩,
 ⟨(some 15), .move (.tmp 55), none⟩])))))))
 (.seq
 (.ops [
 ⟨(some 56), .move (.tmp 5), none⟩,
 ⟨(some 4), .move (.tmp 56), none⟩])
 .ret))))⟩
theorem t14_ok : goodFn Try.prog 14 = true ∧ cfn Try.prog 14 = t14 := ⟨by kernel_rfl, by kernel_rfl⟩

/-- matchguard/matchguardlaw16.begun -/
def t15 : NFn := ⟨25, [(.tmp 0)],
 (.seq
 (.ops [
 ⟨(some 0), .move (.const (.bool false)), none⟩])
 (.seq
 (.ops [
 ⟨(some 3), .call 8 [(.const (.slice none 0 (.fix 0))), (.const (.int .i64 0))], none⟩,
 ⟨(some 4), .call 28 [(.tmp 3)], none⟩,
 ⟨(some 1), .alloc [(.slice none 0 (.fix 0)), (.slice none 0 (.fix 0)), (.slice none 0 (.fix 0)), (.slice none 0 (.fix 0)), (.slice none 0 (.fix 0)), (.slice none 0 (.fix 0)), (.slice none 0 (.fix 0)), (.slice none 0 (.fix 0)), (.int .i64 0), (.int .i64 0)], none⟩,
 ⟨none, .store 10 (.tmp 1) (.tmp 4), none⟩])
 (.seq
 (.ops [
 ⟨(some 5), .build [(.int .i64 0), (.int .i64 0), (.int .i64 0), (.int .i64 0), (.int .i64 0), (.int .i64 0)] [(0, 1, (.const (.int .i64 2))), (2, 1, (.const (.int .i64 4))), (4, 1, (.const (.int .i64 1)))], none⟩,
 ⟨(some 6), .bslice 1 [(.int .i64 0), (.int .i64 0), (.int .i64 0), (.int .i64 0), (.int .i64 0), (.int .i64 0)] [(0, 6, (.tmp 5))], none⟩,
 ⟨(some 7), .off (.tmp 1) 7, none⟩,
 ⟨none, .store 1 (.tmp 7) (.tmp 6), none⟩])
 (.seq
 (.draw 2 [
 ⟨0, ⟨(some 8), .load 10 true (.tmp 1), none⟩, [], 0⟩,
 ⟨1, ⟨(some 9), .mkslice 8 64 [(.bool false), (.int .u64 0), (.int .u64 0), (.int .u64 0), (.int .u64 0), (.int .i64 0), (.int .u64 0), (.int .u64 0)] (.const (.int .i64 1)) (.const (.int .i64 1)), none⟩, [], 0⟩,
 ⟨2, ⟨(some 10), .build [(.int .u64 0), (.int .u64 0)] [(1, 1, (.const (.int .u64 5)))], none⟩, [], 1⟩,
 ⟨3, ⟨(some 11), .bslice 1 [(.int .u64 0), (.int .u64 0)] [(0, 2, (.tmp 10))], none⟩, [2], 1⟩,
 ⟨4, ⟨(some 12), .build [(.int .i64 0), (.slice none 0 (.fix 0)), (.int .i64 0), (.int .i64 0), (.slice none 0 (.fix 0))] [(0, 1, (.const (.int .i64 2))), (1, 1, (.tmp 9)), (3, 1, (.const (.int .i64 4))), (4, 1, (.tmp 11))], none⟩, [1, 3, 2], 2⟩,
 ⟨5, ⟨(some 13), .call 11 [(.tmp 8), (.tmp 12)], none⟩, [0, 4, 1, 3, 2], 2⟩,
 ⟨6, ⟨(some 2), .move (.tmp 13), none⟩, [5, 0, 4, 1, 3, 2], 2⟩])
 (.seq
 (.ops [
 ⟨(some 14), .move (.tmp 2), none⟩,
 ⟨(some 15), .lenSl (.tmp 14), none⟩,
 ⟨(some 16), .bin .eql (.tmp 15) (.const (.int .i64 1)), none⟩,
 ⟨(some 17), .move (.tmp 16), none⟩,
 ⟨(some 18), .move (.tmp 2), (some (17, true))⟩,
 ⟨(some 19), .idxSl (.tmp 18) (.const (.int .i64 0)) 4, (some (17, true))⟩,
 ⟨(some 20), .load 4 true (.tmp 19), (some (17, true))⟩,
 ⟨(some 21), .build [(.int .u64 0), (.int .u64 0)] [(1, 1, (.const (.int .u64 5)))], (some (17, true))⟩,
 ⟨(some 22), .build [(.int .i64 0), (.int .i64 0), (.int .u64 0), (.int .u64 0)] [(0, 1, (.const (.int .i64 1))), (2, 2, (.tmp 21))], (some (17, true))⟩,
 ⟨(some 23), .eq false true [.int, .int, .int, .int] (.tmp 20) (.tmp 22), (some (17, true))⟩,
 ⟨(some 24), .pick (.tmp 17) (.tmp 23) (.const (.bool false)), none⟩,
 ⟨(some 0), .move (.tmp 24), none⟩])
 .ret)))))⟩
theorem t15_ok : goodFn Try.prog 15 = true ∧ cfn Try.prog 15 = t15 := ⟨by kernel_rfl, by kernel_rfl⟩

/-- matchguard/refs.New -/
def t16 : NFn := ⟨7, [(.tmp 2)],
 (.seq
 (.ops [
 ⟨(some 1), .box (.tmp 0), none⟩,
 ⟨(some 2), .move (.const (.ptr none)), none⟩])
 (.seq
 (.ops [
 ⟨(some 3), .load 10 true (.tmp 1), none⟩,
 ⟨(some 4), .mkmap, none⟩,
 ⟨(some 5), .build [(.slice none 0 (.fix 0)), (.slice none 0 (.fix 0)), (.slice none 0 (.fix 0)), (.slice none 0 (.fix 0)), (.slice none 0 (.fix 0)), (.slice none 0 (.fix 0)), (.slice none 0 (.fix 0)), (.slice none 0 (.fix 0)), (.int .i64 0), (.int .i64 0), (.map none)] [(0, 10, (.tmp 3)), (10, 1, (.tmp 4))], none⟩,
 ⟨(some 6), .box (.tmp 5), none⟩,
 ⟨(some 2), .move (.tmp 6), none⟩])
 .ret))⟩
theorem t16_ok : goodFn Try.prog 16 = true ∧ cfn Try.prog 16 = t16 := ⟨by kernel_rfl, by kernel_rfl⟩

/-- (*matchguard/refs.Counts).Add -/
def t17 : NFn := ⟨7, [],
 (.seq
 (.ops [
 ⟨(some 3), .box (.tmp 1), none⟩])
 (.ops [
 ⟨(some 4), .move (.tmp 0), none⟩,
 ⟨(some 5), .load 5 true (.tmp 3), none⟩,
 ⟨(some 6), .call 32 [(.tmp 4), (.tmp 5), (.const (.int .i64 1))], none⟩]))⟩
theorem t17_ok : goodFn Try.prog 17 = true ∧ cfn Try.prog 17 = t17 := ⟨by kernel_rfl, by kernel_rfl⟩

/-- (*matchguard/refs.Counts).Dangling -/
def t18 : NFn := ⟨28, [(.tmp 2)],
 (.seq
 (.ops [
 ⟨(some 2), .move (.const (.slice none 0 (.fix 0))), none⟩])
 (.seq
 (.ops [
 ⟨(some 3), .move (.const (.slice none 0 (.fix 0))), none⟩])
 (.seq
 (.seq
 (.ops [
 ⟨(some 6), .move (.tmp 0), none⟩,
 ⟨(some 7), .call 24 [(.tmp 6)], none⟩,
 ⟨(some 8), .lenSl (.tmp 7), none⟩,
 ⟨(some 9), .move (.const (.int .i64 0)), none⟩])
 (.block 0
 (.loop
 (.seq
 (.ops [
 ⟨(some 10), .bin .lss (.tmp 9) (.tmp 8), none⟩])
 (.seq
 (.cond (.tmp 10)
 .skip
 (.exit 0))
 (.seq
 (.block 1
 (.seq
 (.ops [
 ⟨(some 11), .idxSl (.tmp 7) (.tmp 9) 6, none⟩,
 ⟨(some 12), .load 6 true (.tmp 11), none⟩,
 ⟨(some 5), .alloc [(.int .i64 0), (.int .i64 0), (.int .u64 0), (.int .u64 0), (.int .i64 0), (.int .i64 0)], none⟩,
 ⟨none, .store 6 (.tmp 5) (.tmp 12), none⟩])
 (.seq
 (.ops [
 ⟨(some 13), .off (.tmp 5) 4, none⟩,
 ⟨(some 14), .load 1 false (.tmp 13), none⟩,
 ⟨(some 15), .bin .gtr (.tmp 14) (.const (.int .i64 0)), none⟩,
 ⟨(some 16), .move (.tmp 15), none⟩,
 ⟨(some 17), .off (.tmp 5) 5, (some (16, true))⟩,
 ⟨(some 18), .load 1 false (.tmp 17), (some (16, true))⟩,
 ⟨(some 19), .bin .eql (.tmp 18) (.const (.int .i64 0)), (some (16, true))⟩,
 ⟨(some 20), .pick (.tmp 16) (.tmp 19) (.const (.bool false)), none⟩])
 (.cond (.tmp 20)
 (.ops [
 ⟨(some 21), .move (.tmp 3), none⟩,
 ⟨(some 22), .off (.tmp 5) 0, none⟩,
 ⟨(some 23), .load 4 true (.tmp 22), none⟩,
 ⟨(some 24), .bslice 1 [(.int .i64 0), (.int .i64 0), (.int .u64 0), (.int .u64 0)] [(0, 4, (.tmp 23))], none⟩,
 ⟨(some 25), .append 4 32 (.tmp 21) (.tmp 24), none⟩,
 ⟨(some 3), .move (.tmp 25), none⟩])
 .skip))))
 (.ops [
 ⟨(some 26), .bin .add (.tmp 9) (.const (.int .i64 1)), none⟩,
 ⟨(some 9), .move (.tmp 26), none⟩])))))))
 (.seq
 (.ops [
 ⟨(some 27), .move (.tmp 3), none⟩,
 ⟨(some 2), .move (.tmp 27), none⟩])
 .ret))))⟩
theorem t18_ok : goodFn Try.prog 18 = true ∧ cfn Try.prog 18 = t18 := ⟨by kernel_rfl, by kernel_rfl⟩

/-- (*matchguard/matchguardcase.Codes).Left -/
def t19 : NFn := ⟨13, [(.tmp 2)],
 (.seq
 (.ops [
 ⟨(some 2), .move (.const (.bool false)), none⟩])
 (.seq
 (.draw 0 [
 ⟨0, ⟨(some 3), .move (.tmp 0), none⟩, [], 0⟩,
 ⟨1, ⟨(some 4), .nilCheck (.tmp 3), none⟩, [0], 0⟩,
 ⟨2, ⟨(some 5), .off (.tmp 4) 1, none⟩, [1, 0], 0⟩,
 ⟨3, ⟨(some 6), .load 1 false (.tmp 5), none⟩, [2, 1, 0], 0⟩,
 ⟨4, ⟨(some 7), .move (.tmp 0), none⟩, [], 0⟩,
 ⟨5, ⟨(some 8), .nilCheck (.tmp 7), none⟩, [4], 0⟩,
 ⟨6, ⟨(some 9), .off (.tmp 8) 0, none⟩, [5, 4], 0⟩,
 ⟨7, ⟨(some 10), .load 1 false (.tmp 9), none⟩, [6, 5, 4], 0⟩,
 ⟨8, ⟨(some 11), .lenSl (.tmp 10), none⟩, [7, 6, 5, 4], 0⟩,
 ⟨9, ⟨(some 12), .bin .lss (.tmp 6) (.tmp 11), none⟩, [3, 2, 1, 0, 8, 7, 6, 5, 4], 0⟩,
 ⟨10, ⟨(some 2), .move (.tmp 12), none⟩, [9, 3, 2, 1, 0, 8, 7, 6, 5, 4], 0⟩])
 .ret))⟩
theorem t19_ok : goodFn Try.prog 19 = true ∧ cfn Try.prog 19 = t19 := ⟨by kernel_rfl, by kernel_rfl⟩

/-- (*matchguard/matchguardcase.Codes).Next -/
def t20 : NFn := ⟨33, [(.tmp 4)],
 (.seq
 (.ops [
 ⟨(some 4), .move (.const (.int .i64 0)), none⟩])
 (.seq
 (.seq
 (.ops [
 ⟨(some 5), .move (.tmp 0), none⟩,
 ⟨(some 6), .call 19 [(.tmp 5)], none⟩,
 ⟨(some 7), .un .not (.tmp 6), none⟩,
 ⟨(some 8), .move (.tmp 7), none⟩,
 ⟨(some 9), .move (.tmp 1), (some (8, false))⟩,
 ⟨(some 10), .bin .lss (.tmp 9) (.const (.int .i64 1)), (some (8, false))⟩,
 ⟨(some 11), .pick (.tmp 8) (.const (.bool true)) (.tmp 10), none⟩])
 (.cond (.tmp 11)
 (.seq
 (.ops [
 ⟨(some 4), .move (.const (.int .i64 0)), none⟩])
 .ret)
 .skip))
 (.seq
 (.ops [
 ⟨(some 12), .move (.tmp 0), none⟩,
 ⟨(some 13), .nilCheck (.tmp 12), none⟩,
 ⟨(some 14), .off (.tmp 13) 1, none⟩,
 ⟨(some 15), .load 1 false (.tmp 14), none⟩,
 ⟨(some 16), .bin .add (.tmp 15) (.const (.int .i64 1)), none⟩,
 ⟨(some 17), .nilCheck (.tmp 12), none⟩,
 ⟨(some 18), .off (.tmp 17) 1, none⟩,
 ⟨none, .store 1 (.tmp 18) (.tmp 16), none⟩])
 (.seq
 (.draw 0 [
 ⟨0, ⟨(some 19), .move (.tmp 0), none⟩, [], 0⟩,
 ⟨1, ⟨(some 20), .nilCheck (.tmp 19), none⟩, [0], 0⟩,
 ⟨2, ⟨(some 21), .off (.tmp 20) 0, none⟩, [1, 0], 0⟩,
 ⟨3, ⟨(some 22), .load 1 false (.tmp 21), none⟩, [2, 1, 0], 0⟩,
 ⟨4, ⟨(some 23), .move (.tmp 0), none⟩, [], 0⟩,
 ⟨5, ⟨(some 24), .nilCheck (.tmp 23), none⟩, [4], 0⟩,
 ⟨6, ⟨(some 25), .off (.tmp 24) 1, none⟩, [5, 4], 0⟩,
 ⟨7, ⟨(some 26), .load 1 false (.tmp 25), none⟩, [6, 5, 4], 0⟩,
 ⟨8, ⟨(some 27), .bin .sub (.tmp 26) (.const (.int .i64 1)), none⟩, [7, 6, 5, 4], 0⟩,
 ⟨9, ⟨(some 28), .idxSl (.tmp 22) (.tmp 27) 1, none⟩, [3, 2, 1, 0, 8, 7, 6, 5, 4], 0⟩,
 ⟨10, ⟨(some 29), .load 1 false (.tmp 28), none⟩, [9, 3, 2, 1, 0, 8, 7, 6, 5, 4], 0⟩,
 ⟨11, ⟨(some 30), .conv .i64 (.tmp 29), none⟩, [10, 9, 3, 2, 1, 0, 8, 7, 6, 5, 4], 0⟩,
 ⟨12, ⟨(some 31), .move (.tmp 1), none⟩, [], 0⟩,
 ⟨13, ⟨(some 32), .bin .rem (.tmp 30) (.tmp 31), none⟩, [11, 10, 9, 3, 2, 1, 0, 8, 7, 6, 5, 4, 12], 0⟩,
 ⟨14, ⟨(some 4), .move (.tmp 32), none⟩, [13, 11, 10, 9, 3, 2, 1, 0, 8, 7, 6, 5, 4, 12], 0⟩])
 .ret))))⟩
theorem t20_ok : goodFn Try.prog 20 = true ∧ cfn Try.prog 20 = t20 := ⟨by kernel_rfl, by kernel_rfl⟩

/-- (*matchguard/refs.Counts).Remove -/
def t21 : NFn := ⟨7, [],
 (.seq
 (.ops [
 ⟨(some 3), .box (.tmp 1), none⟩])
 (.ops [
 ⟨(some 4), .move (.tmp 0), none⟩,
 ⟨(some 5), .load 5 true (.tmp 3), none⟩,
 ⟨(some 6), .call 32 [(.tmp 4), (.tmp 5), (.const (.int .i64 (-1)))], none⟩]))⟩
theorem t21_ok : goodFn Try.prog 21 = true ∧ cfn Try.prog 21 = t21 := ⟨by kernel_rfl, by kernel_rfl⟩

/-- (*matchguard/matchguardcase.Codes).Entry -/
def t22 : NFn := ⟨88, [(.cell 6 5 true)],
 (.seq
 (.ops [
 ⟨(some 4), .box (.tmp 1), none⟩,
 ⟨(some 6), .alloc [(.int .i64 0), (.slice none 0 (.fix 0)), (.int .i64 0), (.int .i64 0), (.slice none 0 (.fix 0))], none⟩])
 (.seq
 (.draw 1 [
 ⟨0, ⟨(some 13), .off (.tmp 4) 4, none⟩, [], 0⟩,
 ⟨1, ⟨(some 14), .load 1 false (.tmp 13), none⟩, [0], 0⟩,
 ⟨2, ⟨(some 15), .move (.tmp 2), none⟩, [], 0⟩,
 ⟨3, ⟨(some 16), .off (.tmp 4) 4, none⟩, [], 0⟩,
 ⟨4, ⟨(some 17), .load 1 false (.tmp 16), none⟩, [3], 0⟩,
 ⟨5, ⟨(some 18), .lenSl (.tmp 17), none⟩, [4, 3], 0⟩,
 ⟨6, ⟨(some 19), .call 27 [(.tmp 15), (.tmp 18)], none⟩, [2, 5, 4, 3], 0⟩,
 ⟨7, ⟨(some 20), .idxSl (.tmp 14) (.tmp 19) 8, none⟩, [1, 0, 6, 2, 5, 4, 3], 0⟩,
 ⟨8, ⟨(some 21), .load 8 true (.tmp 20), none⟩, [7, 1, 0, 6, 2, 5, 4, 3], 0⟩,
 ⟨9, ⟨(some 7), .alloc [(.int .i64 0), (.str ⟨#[]⟩), (.slice none 0 (.fix 0)), (.slice none 0 (.fix 0)), (.int .i64 0), (.slice none 0 (.fix 0)), (.int .i64 0), (.str ⟨#[]⟩)], none⟩, [], 0⟩,
 ⟨10, ⟨none, .store 8 (.tmp 7) (.tmp 21), none⟩, [9, 8, 7, 1, 0, 6, 2, 5, 4, 3], 1⟩])
 (.seq
 (.ops [
 ⟨(some 22), .off (.tmp 7) 0, none⟩,
 ⟨(some 23), .load 1 false (.tmp 22), none⟩,
 ⟨(some 24), .build [(.int .i64 0), (.slice none 0 (.fix 0)), (.int .i64 0), (.int .i64 0), (.slice none 0 (.fix 0))] [(0, 1, (.tmp 23))], none⟩,
 ⟨(some 8), .alloc [(.int .i64 0), (.slice none 0 (.fix 0)), (.int .i64 0), (.int .i64 0), (.slice none 0 (.fix 0))], none⟩,
 ⟨none, .store 5 (.tmp 8) (.tmp 24), none⟩])
 (.seq
 (.seq
 (.ops [
 ⟨(some 25), .off (.tmp 7) 2, none⟩,
 ⟨(some 26), .load 1 false (.tmp 25), none⟩,
 ⟨(some 27), .lenSl (.tmp 26), none⟩,
 ⟨(some 28), .move (.const (.int .i64 0)), none⟩])
 (.block 0
 (.loop
 (.seq
 (.ops [
 ⟨(some 29), .bin .lss (.tmp 28) (.tmp 27), none⟩])
 (.seq
 (.cond (.tmp 29)
 .skip
 (.exit 0))
 (.seq
 (.block 1
 (.seq
 (.ops [
 ⟨(some 30), .idxSl (.tmp 26) (.tmp 28) 3, none⟩,
 ⟨(some 31), .load 3 true (.tmp 30), none⟩,
 ⟨(some 10), .alloc [(.str ⟨#[]⟩), (.int .i64 0), (.int .i64 0)], none⟩,
 ⟨none, .store 3 (.tmp 10) (.tmp 31), none⟩])
 (.seq
 (.draw 1 [
 ⟨0, ⟨(some 32), .off (.tmp 8) 1, none⟩, [], 0⟩,
 ⟨1, ⟨(some 33), .load 1 false (.tmp 32), none⟩, [0], 0⟩,
 ⟨2, ⟨(some 34), .move (.tmp 0), none⟩, [], 0⟩,
 ⟨3, ⟨(some 35), .load 10 true (.tmp 4), none⟩, [], 0⟩,
 ⟨4, ⟨(some 36), .load 3 true (.tmp 10), none⟩, [], 0⟩,
 ⟨5, ⟨(some 37), .call 33 [(.tmp 34), (.tmp 35), (.tmp 36)], none⟩, [2, 3, 4], 0⟩,
 ⟨6, ⟨(some 38), .bslice 1 [(.bool false), (.int .u64 0), (.int .u64 0), (.int .u64 0), (.int .u64 0), (.int .i64 0), (.int .u64 0), (.int .u64 0)] [(0, 8, (.tmp 37))], none⟩, [5, 2, 3, 4], 0⟩,
 ⟨7, ⟨(some 39), .append 8 64 (.tmp 33) (.tmp 38), none⟩, [1, 0, 6, 5, 2, 3, 4], 1⟩,
 ⟨8, ⟨(some 40), .off (.tmp 8) 1, none⟩, [0, 1, 2, 3, 4, 5, 6, 7], 1⟩,
 ⟨9, ⟨none, .store 1 (.tmp 40) (.tmp 39), none⟩, [8, 0, 1, 2, 3, 4, 5, 6, 7], 1⟩])
 (.seq
 (.ops [
 ⟨(some 41), .off (.tmp 10) 2, none⟩,
 ⟨(some 42), .load 1 false (.tmp 41), none⟩,
 ⟨(some 43), .bin .eql (.tmp 42) (.const (.int .i64 3)), none⟩,
 ⟨(some 44), .move (.tmp 43), none⟩,
 ⟨(some 45), .off (.tmp 10) 2, (some (44, false))⟩,
 ⟨(some 46), .load 1 false (.tmp 45), (some (44, false))⟩,
 ⟨(some 47), .bin .eql (.tmp 46) (.const (.int .i64 4)), (some (44, false))⟩,
 ⟨(some 48), .pick (.tmp 44) (.const (.bool true)) (.tmp 47), none⟩])
 (.cond (.tmp 48)
 (.ops [
 ⟨(some 49), .move (.tmp 0), none⟩,
 ⟨(some 50), .call 20 [(.tmp 49), (.const (.int .i64 5))], none⟩,
 ⟨(some 51), .bin .add (.const (.int .i64 1)) (.tmp 50), none⟩,
 ⟨(some 52), .off (.tmp 8) 2, none⟩,
 ⟨none, .store 1 (.tmp 52) (.tmp 51), none⟩])
 .skip)))))
 (.ops [
 ⟨(some 53), .bin .add (.tmp 28) (.const (.int .i64 1)), none⟩,
 ⟨(some 28), .move (.tmp 53), none⟩])))))))
 (.seq
 (.draw 0 [
 ⟨0, ⟨(some 54), .off (.tmp 7) 3, none⟩, [], 0⟩,
 ⟨1, ⟨(some 55), .load 1 false (.tmp 54), none⟩, [0], 0⟩,
 ⟨2, ⟨(some 56), .move (.tmp 0), none⟩, [], 0⟩,
 ⟨3, ⟨(some 57), .off (.tmp 7) 3, none⟩, [], 0⟩,
 ⟨4, ⟨(some 58), .load 1 false (.tmp 57), none⟩, [3], 0⟩,
 ⟨5, ⟨(some 59), .lenSl (.tmp 58), none⟩, [4, 3], 0⟩,
 ⟨6, ⟨(some 60), .call 20 [(.tmp 56), (.tmp 59)], none⟩, [2, 5, 4, 3], 0⟩,
 ⟨7, ⟨(some 61), .idxSl (.tmp 55) (.tmp 60) 1, none⟩, [1, 0, 6, 2, 5, 4, 3], 0⟩,
 ⟨8, ⟨(some 62), .load 1 false (.tmp 61), none⟩, [7, 1, 0, 6, 2, 5, 4, 3], 0⟩,
 ⟨9, ⟨(some 63), .off (.tmp 8) 3, none⟩, [0, 1, 2, 3, 4, 5, 6, 7, 8], 0⟩,
 ⟨10, ⟨none, .store 1 (.tmp 63) (.tmp 62), none⟩, [9, 0, 1, 2, 3, 4, 5, 6, 7, 8], 0⟩])
 (.seq
 (.seq
 (.ops [
 ⟨(some 64), .load 10 true (.tmp 4), none⟩,
 ⟨(some 65), .off (.tmp 8) 3, none⟩,
 ⟨(some 66), .load 1 false (.tmp 65), none⟩,
 ⟨(some 67), .call 34 [(.tmp 64), (.tmp 66)], none⟩,
 ⟨(some 68), .fieldv (.tmp 67) 2 1 false, none⟩,
 ⟨(some 69), .lenSl (.tmp 68), none⟩,
 ⟨(some 70), .move (.const (.int .i64 0)), none⟩])
 (.block 2
 (.loop
 (.seq
 (.ops [
 ⟨(some 71), .bin .lss (.tmp 70) (.tmp 69), none⟩])
 (.seq
 (.cond (.tmp 71)
 .skip
 (.exit 2))
 (.seq
 (.block 3
 (.seq
 (.ops [
 ⟨(some 72), .idxSl (.tmp 68) (.tmp 70) 2, none⟩,
 ⟨(some 73), .load 2 true (.tmp 72), none⟩,
 ⟨(some 12), .alloc [(.str ⟨#[]⟩), (.int .i64 0)], none⟩,
 ⟨none, .store 2 (.tmp 12) (.tmp 73), none⟩])
 (.draw 1 [
 ⟨0, ⟨(some 74), .off (.tmp 8) 4, none⟩, [], 0⟩,
 ⟨1, ⟨(some 75), .load 1 false (.tmp 74), none⟩, [0], 0⟩,
 ⟨2, ⟨(some 76), .move (.tmp 0), none⟩, [], 0⟩,
 ⟨3, ⟨(some 77), .call 20 [(.tmp 76), (.const (.int .i64 256))], none⟩, [2], 0⟩,
 ⟨4, ⟨(some 78), .conv .u64 (.tmp 77), none⟩, [3, 2], 0⟩,
 ⟨5, ⟨(some 79), .build [(.int .u64 0), (.int .u64 0)] [(1, 1, (.tmp 78))], none⟩, [4, 3, 2], 0⟩,
 ⟨6, ⟨(some 80), .off (.tmp 12) 1, none⟩, [], 0⟩,
 ⟨7, ⟨(some 81), .load 1 false (.tmp 80), none⟩, [6], 0⟩,
 ⟨8, ⟨(some 82), .call 35 [(.tmp 79), (.tmp 81)], none⟩, [5, 4, 3, 2, 7, 6], 0⟩,
 ⟨9, ⟨(some 83), .bslice 1 [(.int .u64 0), (.int .u64 0)] [(0, 2, (.tmp 82))], none⟩, [8, 5, 4, 3, 2, 7, 6], 0⟩,
 ⟨10, ⟨(some 84), .append 2 16 (.tmp 75) (.tmp 83), none⟩, [1, 0, 9, 8, 5, 4, 3, 2, 7, 6], 1⟩,
 ⟨11, ⟨(some 85), .off (.tmp 8) 4, none⟩, [0, 1, 2, 3, 4, 5, 6, 7, 8, 9, 10], 1⟩,
 ⟨12, ⟨none, .store 1 (.tmp 85) (.tmp 84), none⟩, [11, 0, 1, 2, 3, 4, 5, 6, 7, 8, 9, 10], 1⟩])))
 (.ops [
 ⟨(some 86), .bin .add (.tmp 70) (.const (.int .i64 1)), none⟩,
 ⟨(some 70), .move (.tmp 86), none⟩])))))))
 (.seq
 (.ops [
 ⟨(some 87), .load 5 true (.tmp 8), none⟩,
 ⟨none, .store 5 (.tmp 6) (.tmp 87), none⟩])
 .ret)))))))⟩
theorem t22_ok : goodFn Try.prog 22 = true ∧ cfn Try.prog 22 = t22 := ⟨by kernel_rfl, by kernel_rfl⟩

/-- matchguard/matchguardlaw16.counts -/
def t23 : NFn := ⟨51, [(.tmp 4)],
 (.seq
 (.ops [
 ⟨(some 4), .move (.const (.bool false)), none⟩])
 (.seq
 (.seq
 (.ops [
 ⟨(some 7), .move (.tmp 0), none⟩,
 ⟨(some 8), .lenSl (.tmp 7), none⟩,
 ⟨(some 9), .move (.tmp 1), none⟩,
 ⟨(some 10), .lenSl (.tmp 9), none⟩,
 ⟨(some 11), .bin .neq (.tmp 8) (.tmp 10), none⟩])
 (.cond (.tmp 11)
 (.seq
 (.ops [
 ⟨(some 4), .move (.const (.bool false)), none⟩])
 .ret)
 .skip))
 (.seq
 (.seq
 (.ops [
 ⟨(some 12), .move (.tmp 0), none⟩,
 ⟨(some 13), .lenSl (.tmp 12), none⟩,
 ⟨(some 14), .move (.const (.int .i64 0)), none⟩])
 (.block 0
 (.loop
 (.seq
 (.ops [
 ⟨(some 15), .bin .lss (.tmp 14) (.tmp 13), none⟩])
 (.seq
 (.cond (.tmp 15)
 .skip
 (.exit 0))
 (.seq
 (.block 1
 (.seq
 (.ops [
 ⟨(some 16), .move (.tmp 14), none⟩,
 ⟨(some 17), .idxSl (.tmp 12) (.tmp 14) 6, none⟩,
 ⟨(some 18), .load 6 true (.tmp 17), none⟩,
 ⟨(some 6), .alloc [(.int .i64 0), (.int .i64 0), (.int .u64 0), (.int .u64 0), (.int .i64 0), (.int .i64 0)], none⟩,
 ⟨(some 5), .move (.tmp 16), none⟩,
 ⟨none, .store 6 (.tmp 6) (.tmp 18), none⟩])
 (.seq
 (.draw 2 [
 ⟨0, ⟨(some 19), .off (.tmp 6) 4, none⟩, [], 0⟩,
 ⟨1, ⟨(some 20), .load 1 false (.tmp 19), none⟩, [0], 0⟩,
 ⟨2, ⟨(some 21), .move (.tmp 1), none⟩, [], 0⟩,
 ⟨3, ⟨(some 22), .move (.tmp 5), none⟩, [], 0⟩,
 ⟨4, ⟨(some 23), .idxSl (.tmp 21) (.tmp 22) 6, none⟩, [2, 3], 0⟩,
 ⟨5, ⟨(some 24), .off (.tmp 23) 4, none⟩, [4, 2, 3], 0⟩,
 ⟨6, ⟨(some 25), .load 1 false (.tmp 24), none⟩, [5, 4, 2, 3], 0⟩,
 ⟨7, ⟨(some 26), .bin .neq (.tmp 20) (.tmp 25), none⟩, [1, 0, 6, 5, 4, 2, 3], 0⟩,
 ⟨8, ⟨(some 27), .move (.tmp 26), none⟩, [7, 1, 0, 6, 5, 4, 2, 3], 0⟩,
 ⟨9, ⟨(some 28), .off (.tmp 6) 5, (some (27, false))⟩, [8, 7, 1, 0, 6, 5, 4, 2, 3], 0⟩,
 ⟨10, ⟨(some 29), .load 1 false (.tmp 28), (some (27, false))⟩, [9, 8, 7, 1, 0, 6, 5, 4, 2, 3], 0⟩,
 ⟨11, ⟨(some 30), .move (.tmp 1), (some (27, false))⟩, [8, 7, 1, 0, 6, 5, 4, 2, 3], 0⟩,
 ⟨12, ⟨(some 31), .move (.tmp 5), (some (27, false))⟩, [8, 7, 1, 0, 6, 5, 4, 2, 3], 0⟩,
 ⟨13, ⟨(some 32), .idxSl (.tmp 30) (.tmp 31) 6, (some (27, false))⟩, [11, 8, 7, 1, 0, 6, 5, 4, 2, 3, 12], 0⟩,
 ⟨14, ⟨(some 33), .off (.tmp 32) 5, (some (27, false))⟩, [13, 11, 8, 7, 1, 0, 6, 5, 4, 2, 3, 12], 0⟩,
 ⟨15, ⟨(some 34), .load 1 false (.tmp 33), (some (27, false))⟩, [14, 13, 11, 8, 7, 1, 0, 6, 5, 4, 2, 3, 12], 0⟩,
 ⟨16, ⟨(some 35), .bin .neq (.tmp 29) (.tmp 34), (some (27, false))⟩, [10, 9, 8, 7, 1, 0, 6, 5, 4, 2, 3, 15, 14, 13, 11, 12], 0⟩,
 ⟨17, ⟨(some 36), .pick (.tmp 27) (.const (.bool true)) (.tmp 35), none⟩, [8, 7, 1, 0, 6, 5, 4, 2, 3, 16, 10, 9, 15, 14, 13, 11, 12], 0⟩,
 ⟨18, ⟨(some 37), .move (.tmp 36), none⟩, [17, 8, 7, 1, 0, 6, 5, 4, 2, 3, 16, 10, 9, 15, 14, 13, 11, 12], 0⟩,
 ⟨19, ⟨(some 38), .off (.tmp 6) 0, (some (37, false))⟩, [18, 17, 8, 7, 1, 0, 6, 5, 4, 2, 3, 16, 10, 9, 15, 14, 13, 11, 12], 0⟩,
 ⟨20, ⟨(some 39), .load 4 true (.tmp 38), (some (37, false))⟩, [19, 18, 17, 8, 7, 1, 0, 6, 5, 4, 2, 3, 16, 10, 9, 15, 14, 13, 11, 12], 0⟩,
 ⟨21, ⟨(some 40), .bslice 1 [(.int .i64 0), (.int .i64 0), (.int .u64 0), (.int .u64 0)] [(0, 4, (.tmp 39))], (some (37, false))⟩, [20, 19, 18, 17, 8, 7, 1, 0, 6, 5, 4, 2, 3, 16, 10, 9, 15, 14, 13, 11, 12], 0⟩,
 ⟨22, ⟨(some 41), .move (.tmp 1), (some (37, false))⟩, [18, 17, 8, 7, 1, 0, 6, 5, 4, 2, 3, 16, 10, 9, 15, 14, 13, 11, 12], 1⟩,
 ⟨23, ⟨(some 42), .move (.tmp 5), (some (37, false))⟩, [18, 17, 8, 7, 1, 0, 6, 5, 4, 2, 3, 16, 10, 9, 15, 14, 13, 11, 12], 1⟩,
 ⟨24, ⟨(some 43), .idxSl (.tmp 41) (.tmp 42) 6, (some (37, false))⟩, [22, 18, 17, 8, 7, 1, 0, 6, 5, 4, 2, 3, 16, 10, 9, 15, 14, 13, 11, 12, 23], 1⟩,
 ⟨25, ⟨(some 44), .off (.tmp 43) 0, (some (37, false))⟩, [24, 22, 18, 17, 8, 7, 1, 0, 6, 5, 4, 2, 3, 16, 10, 9, 15, 14, 13, 11, 12, 23], 1⟩,
 ⟨26, ⟨(some 45), .load 4 true (.tmp 44), (some (37, false))⟩, [25, 24, 22, 18, 17, 8, 7, 1, 0, 6, 5, 4, 2, 3, 16, 10, 9, 15, 14, 13, 11, 12, 23], 1⟩,
 ⟨27, ⟨(some 46), .bslice 1 [(.int .i64 0), (.int .i64 0), (.int .u64 0), (.int .u64 0)] [(0, 4, (.tmp 45))], (some (37, false))⟩, [26, 25, 24, 22, 18, 17, 8, 7, 1, 0, 6, 5, 4, 2, 3, 16, 10, 9, 15, 14, 13, 11, 12, 23], 1⟩,
 ⟨28, ⟨(some 47), .call 10 [(.tmp 40), (.tmp 46)], (some (37, false))⟩, [21, 20, 19, 18, 17, 8, 7, 1, 0, 6, 5, 4, 2, 3, 16, 10, 9, 15, 14, 13, 11, 12, 27, 26, 25, 24, 22, 23], 2⟩,
 ⟨29, ⟨(some 48), .un .not (.tmp 47), (some (37, false))⟩, [28, 21, 20, 19, 18, 17, 8, 7, 1, 0, 6, 5, 4, 2, 3, 16, 10, 9, 15, 14, 13, 11, 12, 27, 26, 25, 24, 22, 23], 2⟩,
 ⟨30, ⟨(some 49), .pick (.tmp 37) (.const (.bool true)) (.tmp 48), none⟩, [18, 17, 8, 7, 1, 0, 6, 5, 4, 2, 3, 16, 10, 9, 15, 14, 13, 11, 12, 29, 28, 21, 20, 19, 27, 26, 25, 24, 22, 23], 2⟩])
 (.cond (.tmp 49)
 (.seq
 (.ops [
 ⟨(some 4), .move (.const (.bool false)), none⟩])
 .ret)
 .skip))))
 (.ops [
 ⟨(some 50), .bin .add (.tmp 14) (.const (.int .i64 1)), none⟩,
 ⟨(some 14), .move (.tmp 50), none⟩])))))))
 (.seq
 (.ops [
 ⟨(some 4), .move (.const (.bool true)), none⟩])
 .ret))))⟩
theorem t23_ok : goodFn Try.prog 23 = true ∧ cfn Try.prog 23 = t23 := ⟨by kernel_rfl, by kernel_rfl⟩

/-- (*matchguard/refs.Counts).All -/
def t24 : NFn := ⟨30, [(.tmp 2)],
 (.seq
 (.ops [
 ⟨(some 2), .move (.const (.slice none 0 (.fix 0))), none⟩])
 (.seq
 (.seq
 (.ops [
 ⟨(some 6), .move (.tmp 0), none⟩,
 ⟨(some 7), .eq false false [.ptr] (.tmp 6) (.const (.ptr none)), none⟩])
 (.cond (.tmp 7)
 (.seq
 (.ops [
 ⟨(some 2), .move (.const (.slice none 0 (.fix 0))), none⟩])
 .ret)
 .skip))
 (.seq
 (.ops [
 ⟨(some 3), .move (.const (.slice none 0 (.fix 0))), none⟩])
 (.seq
 (.seq
 (.ops [
 ⟨(some 8), .move (.tmp 0), none⟩,
 ⟨(some 9), .nilCheck (.tmp 8), none⟩,
 ⟨(some 10), .off (.tmp 9) 10, none⟩,
 ⟨(some 11), .load 1 false (.tmp 10), none⟩,
 ⟨(some 12), .range (.tmp 11), none⟩])
 (.block 0
 (.loop
 (.seq
 (.ops [
 ⟨(some 13), .next (.tmp 12), none⟩,
 ⟨(some 14), .extract (.tmp 13) 0, none⟩])
 (.seq
 (.cond (.tmp 14)
 .skip
 (.exit 0))
 (.block 1
 (.seq
 (.ops [
 ⟨(some 15), .entry (.tmp 12), none⟩,
 ⟨(some 16), .extract (.tmp 15) 0, none⟩,
 ⟨(some 17), .extract (.tmp 15) 1, none⟩,
 ⟨(some 4), .alloc [(.int .i64 0), (.int .i64 0), (.int .u64 0), (.int .u64 0)], none⟩,
 ⟨(some 5), .alloc [(.int .i64 0), (.int .i64 0)], none⟩,
 ⟨none, .store 4 (.tmp 4) (.tmp 16), none⟩,
 ⟨none, .store 2 (.tmp 5) (.tmp 17), none⟩])
 (.ops [
 ⟨(some 18), .move (.tmp 3), none⟩,
 ⟨(some 19), .load 4 true (.tmp 4), none⟩,
 ⟨(some 20), .off (.tmp 5) 0, none⟩,
 ⟨(some 21), .load 1 false (.tmp 20), none⟩,
 ⟨(some 22), .off (.tmp 5) 1, none⟩,
 ⟨(some 23), .load 1 false (.tmp 22), none⟩,
 ⟨(some 24), .build [(.int .i64 0), (.int .i64 0), (.int .u64 0), (.int .u64 0), (.int .i64 0), (.int .i64 0)] [(0, 4, (.tmp 19)), (4, 1, (.tmp 21)), (5, 1, (.tmp 23))], none⟩,
 ⟨(some 25), .bslice 1 [(.int .i64 0), (.int .i64 0), (.int .u64 0), (.int .u64 0), (.int .i64 0), (.int .i64 0)] [(0, 6, (.tmp 24))], none⟩,
 ⟨(some 26), .append 6 48 (.tmp 18) (.tmp 25), none⟩,
 ⟨(some 3), .move (.tmp 26), none⟩]))))))))
 (.seq
 (.ops [
 ⟨(some 27), .move (.tmp 3), none⟩,
 ⟨(some 28), .call 36 [(.tmp 27), (.const (.func (.func 37) [] []))], none⟩])
 (.seq
 (.ops [
 ⟨(some 29), .move (.tmp 3), none⟩,
 ⟨(some 2), .move (.tmp 29), none⟩])
 .ret))))))⟩
theorem t24_ok : goodFn Try.prog 24 = true ∧ cfn Try.prog 24 = t24 := ⟨by kernel_rfl, by kernel_rfl⟩

/-- matchguard/matchguardref16.All -/
def t25 : NFn := ⟨44, [(.tmp 4)],
 (.seq
 (.ops [
 ⟨(some 2), .box (.tmp 0), none⟩,
 ⟨(some 4), .move (.const (.slice none 0 (.fix 0))), none⟩])
 (.seq
 (.ops [
 ⟨(some 5), .move (.const (.slice none 0 (.fix 0))), none⟩])
 (.seq
 (.seq
 (.ops [
 ⟨(some 12), .move (.tmp 1), none⟩,
 ⟨(some 13), .lenSl (.tmp 12), none⟩,
 ⟨(some 14), .move (.const (.int .i64 0)), none⟩])
 (.block 0
 (.loop
 (.seq
 (.ops [
 ⟨(some 15), .bin .lss (.tmp 14) (.tmp 13), none⟩])
 (.seq
 (.cond (.tmp 15)
 .skip
 (.exit 0))
 (.seq
 (.block 1
 (.seq
 (.ops [
 ⟨(some 16), .idxSl (.tmp 12) (.tmp 14) 5, none⟩,
 ⟨(some 17), .load 5 true (.tmp 16), none⟩,
 ⟨(some 7), .alloc [(.int .i64 0), (.slice none 0 (.fix 0)), (.int .i64 0), (.int .i64 0), (.slice none 0 (.fix 0))], none⟩,
 ⟨none, .store 5 (.tmp 7) (.tmp 17), none⟩])
 (.seq
 (.seq
 (.ops [
 ⟨(some 18), .load 10 true (.tmp 2), none⟩,
 ⟨(some 19), .load 5 true (.tmp 7), none⟩,
 ⟨(some 20), .call 12 [(.tmp 18), (.tmp 19)], none⟩,
 ⟨(some 21), .lenSl (.tmp 20), none⟩,
 ⟨(some 22), .move (.const (.int .i64 0)), none⟩])
 (.block 2
 (.loop
 (.seq
 (.ops [
 ⟨(some 23), .bin .lss (.tmp 22) (.tmp 21), none⟩])
 (.seq
 (.cond (.tmp 23)
 .skip
 (.exit 2))
 (.seq
 (.block 3
 (.seq
 (.ops [
 ⟨(some 24), .idxSl (.tmp 20) (.tmp 22) 4, none⟩,
 ⟨(some 25), .load 4 true (.tmp 24), none⟩,
 ⟨(some 9), .alloc [(.int .i64 0), (.int .i64 0), (.int .u64 0), (.int .u64 0)], none⟩,
 ⟨none, .store 4 (.tmp 9) (.tmp 25), none⟩])
 (.ops [
 ⟨(some 26), .move (.tmp 5), none⟩,
 ⟨(some 27), .load 4 true (.tmp 9), none⟩,
 ⟨(some 28), .call 41 [(.tmp 26), (.tmp 27), (.const (.int .i64 1)), (.const (.int .i64 0))], none⟩,
 ⟨(some 5), .move (.tmp 28), none⟩])))
 (.ops [
 ⟨(some 29), .bin .add (.tmp 22) (.const (.int .i64 1)), none⟩,
 ⟨(some 22), .move (.tmp 29), none⟩])))))))
 (.seq
 (.ops [
 ⟨(some 30), .load 10 true (.tmp 2), none⟩,
 ⟨(some 31), .load 5 true (.tmp 7), none⟩,
 ⟨(some 32), .call 14 [(.tmp 30), (.tmp 31)], none⟩,
 ⟨(some 33), .lenSl (.tmp 32), none⟩,
 ⟨(some 34), .move (.const (.int .i64 0)), none⟩])
 (.block 4
 (.loop
 (.seq
 (.ops [
 ⟨(some 35), .bin .lss (.tmp 34) (.tmp 33), none⟩])
 (.seq
 (.cond (.tmp 35)
 .skip
 (.exit 4))
 (.seq
 (.block 5
 (.seq
 (.ops [
 ⟨(some 36), .idxSl (.tmp 32) (.tmp 34) 4, none⟩,
 ⟨(some 37), .load 4 true (.tmp 36), none⟩,
 ⟨(some 11), .alloc [(.int .i64 0), (.int .i64 0), (.int .u64 0), (.int .u64 0)], none⟩,
 ⟨none, .store 4 (.tmp 11) (.tmp 37), none⟩])
 (.ops [
 ⟨(some 38), .move (.tmp 5), none⟩,
 ⟨(some 39), .load 4 true (.tmp 11), none⟩,
 ⟨(some 40), .call 41 [(.tmp 38), (.tmp 39), (.const (.int .i64 0)), (.const (.int .i64 1))], none⟩,
 ⟨(some 5), .move (.tmp 40), none⟩])))
 (.ops [
 ⟨(some 41), .bin .add (.tmp 34) (.const (.int .i64 1)), none⟩,
 ⟨(some 34), .move (.tmp 41), none⟩]))))))))))
 (.ops [
 ⟨(some 42), .bin .add (.tmp 14) (.const (.int .i64 1)), none⟩,
 ⟨(some 14), .move (.tmp 42), none⟩])))))))
 (.seq
 (.ops [
 ⟨(some 43), .move (.tmp 5), none⟩,
 ⟨(some 4), .move (.tmp 43), none⟩])
 .ret))))⟩
theorem t25_ok : goodFn Try.prog 25 = true ∧ cfn Try.prog 25 = t25 := ⟨by kernel_rfl, by kernel_rfl⟩

/-- matchguard/matchguardref16.Dangling -/
def t26 : NFn := ⟨26, [(.tmp 4)],
 (.seq
 (.ops [
 ⟨(some 2), .box (.tmp 0), none⟩,
 ⟨(some 4), .move (.const (.slice none 0 (.fix 0))), none⟩])
 (.seq
 (.ops [
 ⟨(some 5), .move (.const (.slice none 0 (.fix 0))), none⟩])
 (.seq
 (.seq
 (.ops [
 ⟨(some 8), .load 10 true (.tmp 2), none⟩,
 ⟨(some 9), .move (.tmp 1), none⟩,
 ⟨(some 10), .call 25 [(.tmp 8), (.tmp 9)], none⟩,
 ⟨(some 11), .lenSl (.tmp 10), none⟩,
 ⟨(some 12), .move (.const (.int .i64 0)), none⟩])
 (.block 0
 (.loop
 (.seq
 (.ops [
 ⟨(some 13), .bin .lss (.tmp 12) (.tmp 11), none⟩])
 (.seq
 (.cond (.tmp 13)
 .skip
 (.exit 0))
 (.seq
 (.block 1
 (.seq
 (.ops [
 ⟨(some 14), .idxSl (.tmp 10) (.tmp 12) 6, none⟩,
 ⟨(some 15), .load 6 true (.tmp 14), none⟩,
 ⟨(some 7), .alloc [(.int .i64 0), (.int .i64 0), (.int .u64 0), (.int .u64 0), (.int .i64 0), (.int .i64 0)], none⟩,
 ⟨none, .store 6 (.tmp 7) (.tmp 15), none⟩])
 (.seq
 (.ops [
 ⟨(some 16), .off (.tmp 7) 5, none⟩,
 ⟨(some 17), .load 1 false (.tmp 16), none⟩,
 ⟨(some 18), .bin .eql (.tmp 17) (.const (.int .i64 0)), none⟩])
 (.cond (.tmp 18)
 (.ops [
 ⟨(some 19), .move (.tmp 5), none⟩,
 ⟨(some 20), .off (.tmp 7) 0, none⟩,
 ⟨(some 21), .load 4 true (.tmp 20), none⟩,
 ⟨(some 22), .bslice 1 [(.int .i64 0), (.int .i64 0), (.int .u64 0), (.int .u64 0)] [(0, 4, (.tmp 21))], none⟩,
 ⟨(some 23), .append 4 32 (.tmp 19) (.tmp 22), none⟩,
 ⟨(some 5), .move (.tmp 23), none⟩])
 .skip))))
 (.ops [
 ⟨(some 24), .bin .add (.tmp 12) (.const (.int .i64 1)), none⟩,
 ⟨(some 12), .move (.tmp 24), none⟩])))))))
 (.seq
 (.ops [
 ⟨(some 25), .move (.tmp 5), none⟩,
 ⟨(some 4), .move (.tmp 25), none⟩])
 .ret))))⟩
theorem t26_ok : goodFn Try.prog 26 = true ∧ cfn Try.prog 26 = t26 := ⟨by kernel_rfl, by kernel_rfl⟩

/-- matchguard/matchguardcase.Mod -/
def t27 : NFn := ⟨14, [(.tmp 4)],
 (.seq
 (.ops [
 ⟨(some 4), .move (.const (.int .i64 0)), none⟩])
 (.seq
 (.seq
 (.ops [
 ⟨(some 5), .move (.tmp 1), none⟩,
 ⟨(some 6), .bin .lss (.tmp 5) (.const (.int .i64 1)), none⟩])
 (.cond (.tmp 6)
 (.seq
 (.ops [
 ⟨(some 4), .move (.const (.int .i64 0)), none⟩])
 .ret)
 .skip))
 (.seq
 (.ops [
 ⟨(some 7), .move (.tmp 0), none⟩,
 ⟨(some 8), .move (.tmp 1), none⟩,
 ⟨(some 9), .bin .rem (.tmp 7) (.tmp 8), none⟩,
 ⟨(some 10), .move (.tmp 1), none⟩,
 ⟨(some 11), .bin .add (.tmp 9) (.tmp 10), none⟩,
 ⟨(some 12), .move (.tmp 1), none⟩,
 ⟨(some 13), .bin .rem (.tmp 11) (.tmp 12), none⟩,
 ⟨(some 4), .move (.tmp 13), none⟩])
 .ret)))⟩
theorem t27_ok : goodFn Try.prog 27 = true ∧ cfn Try.prog 27 = t27 := ⟨by kernel_rfl, by kernel_rfl⟩

/-- (*matchguard/matchguardcase.Codes).Schema -/
def t28 : NFn := ⟨102, [(.cell 2 10 true)],
 (.seq
 (.ops [
 ⟨(some 2), .alloc [(.slice none 0 (.fix 0)), (.slice none 0 (.fix 0)), (.slice none 0 (.fix 0)), (.slice none 0 (.fix 0)), (.slice none 0 (.fix 0)), (.slice none 0 (.fix 0)), (.slice none 0 (.fix 0)), (.slice none 0 (.fix 0)), (.int .i64 0), (.int .i64 0)], none⟩])
 (.seq
 (.ops [
 ⟨(some 4), .move (.tmp 0), none⟩,
 ⟨(some 5), .call 20 [(.tmp 4), (.const (.int .i64 8))], none⟩,
 ⟨(some 6), .bin .add (.const (.int .i64 2)) (.tmp 5), none⟩,
 ⟨(some 7), .move (.tmp 0), none⟩,
 ⟨(some 8), .call 20 [(.tmp 7), (.const (.int .i64 30))], none⟩,
 ⟨(some 9), .bin .add (.const (.int .i64 12)) (.tmp 8), none⟩,
 ⟨(some 10), .build [(.slice none 0 (.fix 0)), (.slice none 0 (.fix 0)), (.slice none 0 (.fix 0)), (.slice none 0 (.fix 0)), (.slice none 0 (.fix 0)), (.slice none 0 (.fix 0)), (.slice none 0 (.fix 0)), (.slice none 0 (.fix 0)), (.int .i64 0), (.int .i64 0)] [(8, 1, (.tmp 6)), (9, 1, (.tmp 9))], none⟩,
 ⟨(some 3), .alloc [(.slice none 0 (.fix 0)), (.slice none 0 (.fix 0)), (.slice none 0 (.fix 0)), (.slice none 0 (.fix 0)), (.slice none 0 (.fix 0)), (.slice none 0 (.fix 0)), (.slice none 0 (.fix 0)), (.slice none 0 (.fix 0)), (.int .i64 0), (.int .i64 0)], none⟩,
 ⟨none, .store 10 (.tmp 3) (.tmp 10), none⟩])
 (.seq
 (.ops [
 ⟨(some 11), .build [(.int .i64 0), (.str ⟨#[]⟩), (.int .i64 0)] [(0, 1, (.const (.int .i64 1))), (1, 1, (.const (.str ⟨#[105, 110, 103, 114, 101, 115, 115]⟩))), (2, 1, (.const (.int .i64 16)))], none⟩,
 ⟨(some 12), .build [(.int .i64 0), (.str ⟨#[]⟩), (.int .i64 0)] [(0, 1, (.const (.int .i64 2))), (1, 1, (.const (.str ⟨#[101, 103, 114, 101, 115, 115]⟩))), (2, 1, (.const (.int .i64 16)))], none⟩,
 ⟨(some 13), .build [(.int .i64 0), (.str ⟨#[]⟩), (.int .i64 0)] [(0, 1, (.const (.int .i64 3))), (1, 1, (.const (.str ⟨#[109, 101, 116, 97]⟩))), (2, 1, (.const (.int .i64 8)))], none⟩,
 ⟨(some 14), .build [(.int .i64 0), (.str ⟨#[]⟩), (.int .i64 0)] [(0, 1, (.const (.int .i64 4))), (1, 1, (.const (.str ⟨#[97]⟩))), (2, 1, (.const (.int .i64 4)))], none⟩,
 ⟨(some 15), .build [(.int .i64 0), (.str ⟨#[]⟩), (.int .i64 0)] [(0, 1, (.const (.int .i64 5))), (1, 1, (.const (.str ⟨#[98]⟩))), (2, 1, (.const (.int .i64 4)))], none⟩,
 ⟨(some 16), .build [(.int .i64 0), (.str ⟨#[]⟩), (.int .i64 0)] [(0, 1, (.const (.int .i64 6))), (1, 1, (.const (.str ⟨#[101]⟩))), (2, 1, (.const (.int .i64 8)))], none⟩,
 ⟨(some 17), .build [(.int .i64 0), (.str ⟨#[]⟩), (.int .i64 0)] [(0, 1, (.const (.int .i64 7))), (1, 1, (.const (.str ⟨#[100]⟩))), (2, 1, (.const (.int .i64 32)))], none⟩,
 ⟨(some 18), .build [(.int .i64 0), (.str ⟨#[]⟩), (.int .i64 0)] [(0, 1, (.const (.int .i64 8))), (1, 1, (.const (.str ⟨#[102]⟩))), (2, 1, (.const (.int .i64 12)))], none⟩,
 ⟨(some 19), .build [(.int .i64 0), (.str ⟨#[]⟩), (.int .i64 0)] [(0, 1, (.const (.int .i64 9))), (1, 1, (.const (.str ⟨#[103]⟩))), (2, 1, (.const (.int .i64 4)))], none⟩,
 ⟨(some 20), .bslice 9 [(.int .i64 0), (.str ⟨#[]⟩), (.int .i64 0), (.int .i64 0), (.str ⟨#[]⟩), (.int .i64 0), (.int .i64 0), (.str ⟨#[]⟩), (.int .i64 0), (.int .i64 0), (.str ⟨#[]⟩), (.int .i64 0), (.int .i64 0), (.str ⟨#[]⟩), (.int .i64 0), (.int .i64 0), (.str ⟨#[]⟩), (.int .i64 0), (.int .i64 0), (.str ⟨#[]⟩), (.int .i64 0), (.int .i64 0), (.str ⟨#[]⟩), (.int .i64 0), (.int .i64 0), (.str ⟨#[]⟩), (.int .i64 0)] [(0, 3, (.tmp 11)), (3, 3, (.tmp 12)), (6, 3, (.tmp 13)), (9, 3, (.tmp 14)), (12, 3, (.tmp 15)), (15, 3, (.tmp 16)), (18, 3, (.tmp 17)), (21, 3, (.tmp 18)), (24, 3, (.tmp 19))], none⟩,
 ⟨(some 21), .off (.tmp 3) 0, none⟩,
 ⟨none, .store 1 (.tmp 21) (.tmp 20), none⟩])
 (.seq
 (.ops [
 ⟨(some 22), .bslice 3 [(.int .i64 0), (.int .i64 0), (.int .i64 0)] [(0, 1, (.const (.int .i64 4))), (1, 1, (.const (.int .i64 5))), (2, 1, (.const (.int .i64 6)))], none⟩,
 ⟨(some 23), .build [(.int .i64 0), (.str ⟨#[]⟩), (.slice none 0 (.fix 0))] [(0, 1, (.const (.int .i64 1))), (1, 1, (.const (.str ⟨#[111, 110, 101]⟩))), (2, 1, (.tmp 22))], none⟩,
 ⟨(some 24), .bslice 1 [(.int .i64 0)] [(0, 1, (.const (.int .i64 7)))], none⟩,
 ⟨(some 25), .build [(.int .i64 0), (.str ⟨#[]⟩), (.slice none 0 (.fix 0))] [(0, 1, (.const (.int .i64 2))), (1, 1, (.const (.str ⟨#[116, 119, 111]⟩))), (2, 1, (.tmp 24))], none⟩,
 ⟨(some 26), .bslice 2 [(.int .i64 0), (.int .i64 0)] [(0, 1, (.const (.int .i64 8))), (1, 1, (.const (.int .i64 9)))], none⟩,
 ⟨(some 27), .build [(.int .i64 0), (.str ⟨#[]⟩), (.slice none 0 (.fix 0))] [(0, 1, (.const (.int .i64 3))), (1, 1, (.const (.str ⟨#[116, 104, 114, 101, 101]⟩))), (2, 1, (.tmp 26))], none⟩,
 ⟨(some 28), .bslice 3 [(.int .i64 0), (.str ⟨#[]⟩), (.slice none 0 (.fix 0)), (.int .i64 0), (.str ⟨#[]⟩), (.slice none 0 (.fix 0)), (.int .i64 0), (.str ⟨#[]⟩), (.slice none 0 (.fix 0))] [(0, 3, (.tmp 23)), (3, 3, (.tmp 25)), (6, 3, (.tmp 27))], none⟩,
 ⟨(some 29), .off (.tmp 3) 1, none⟩,
 ⟨none, .store 1 (.tmp 29) (.tmp 28), none⟩])
 (.seq
 (.ops [
 ⟨(some 30), .move (.tmp 0), none⟩,
 ⟨(some 31), .call 42 [(.tmp 30)], none⟩,
 ⟨(some 32), .move (.tmp 0), none⟩,
 ⟨(some 33), .call 43 [(.tmp 32)], none⟩,
 ⟨(some 34), .move (.tmp 0), none⟩,
 ⟨(some 35), .call 44 [(.tmp 34)], none⟩,
 ⟨(some 36), .off (.tmp 3) 2, none⟩,
 ⟨none, .store 1 (.tmp 36) (.tmp 31), none⟩,
 ⟨(some 37), .off (.tmp 3) 3, none⟩,
 ⟨none, .store 1 (.tmp 37) (.tmp 33), none⟩,
 ⟨(some 38), .off (.tmp 3) 4, none⟩,
 ⟨none, .store 1 (.tmp 38) (.tmp 35), none⟩])
 (.seq
 (.ops [
 ⟨(some 39), .move (.tmp 0), none⟩,
 ⟨(some 40), .off (.tmp 3) 4, none⟩,
 ⟨(some 41), .load 1 false (.tmp 40), none⟩,
 ⟨(some 42), .call 45 [(.tmp 39), (.tmp 41)], none⟩,
 ⟨(some 43), .off (.tmp 3) 6, none⟩,
 ⟨none, .store 1 (.tmp 43) (.tmp 42), none⟩])
 (.seq
 (.ops [
 ⟨(some 44), .build [(.int .i64 0), (.int .i64 0)] [(0, 1, (.const (.int .i64 1))), (1, 1, (.const (.int .i64 1)))], none⟩,
 ⟨(some 45), .build [(.int .i64 0), (.int .i64 0)] [(0, 1, (.const (.int .i64 2))), (1, 1, (.const (.int .i64 2)))], none⟩,
 ⟨(some 46), .build [(.int .i64 0), (.int .i64 0)] [(0, 1, (.const (.int .i64 3)))], none⟩,
 ⟨(some 47), .build [(.int .i64 0), (.int .i64 0)] [(0, 1, (.const (.int .i64 4))), (1, 1, (.const (.int .i64 3)))], none⟩,
 ⟨(some 48), .bslice 4 [(.int .i64 0), (.int .i64 0), (.int .i64 0), (.int .i64 0), (.int .i64 0), (.int .i64 0), (.int .i64 0), (.int .i64 0)] [(0, 2, (.tmp 44)), (2, 2, (.tmp 45)), (4, 2, (.tmp 46)), (6, 2, (.tmp 47))], none⟩,
 ⟨(some 49), .off (.tmp 3) 5, none⟩,
 ⟨none, .store 1 (.tmp 49) (.tmp 48), none⟩])
 (.seq
 (.seq
 (.ops [
 ⟨(some 50), .move (.tmp 0), none⟩,
 ⟨(some 51), .call 46 [(.tmp 50)], none⟩])
 (.cond (.tmp 51)
 (.ops [
 ⟨(some 52), .off (.tmp 3) 5, none⟩,
 ⟨(some 53), .load 1 false (.tmp 52), none⟩,
 ⟨(some 54), .build [(.int .i64 0), (.int .i64 0)] [(0, 1, (.const (.int .i64 1)))], none⟩,
 ⟨(some 55), .bslice 1 [(.int .i64 0), (.int .i64 0)] [(0, 2, (.tmp 54))], none⟩,
 ⟨(some 56), .append 2 16 (.tmp 53) (.tmp 55), none⟩,
 ⟨(some 57), .off (.tmp 3) 5, none⟩,
 ⟨none, .store 1 (.tmp 57) (.tmp 56), none⟩])
 .skip))
 (.seq
 (.seq
 (.ops [
 ⟨(some 58), .move (.tmp 0), none⟩,
 ⟨(some 59), .call 46 [(.tmp 58)], none⟩])
 (.cond (.tmp 59)
 (.ops [
 ⟨(some 60), .off (.tmp 3) 7, none⟩,
 ⟨(some 61), .load 1 false (.tmp 60), none⟩,
 ⟨(some 62), .build [(.int .i64 0), (.int .i64 0), (.int .i64 0), (.int .i64 0), (.int .i64 0), (.int .i64 0)] [(0, 1, (.const (.int .i64 2))), (2, 1, (.const (.int .i64 4))), (4, 1, (.const (.int .i64 1)))], none⟩,
 ⟨(some 63), .bslice 1 [(.int .i64 0), (.int .i64 0), (.int .i64 0), (.int .i64 0), (.int .i64 0), (.int .i64 0)] [(0, 6, (.tmp 62))], none⟩,
 ⟨(some 64), .append 6 48 (.tmp 61) (.tmp 63), none⟩,
 ⟨(some 65), .off (.tmp 3) 7, none⟩,
 ⟨none, .store 1 (.tmp 65) (.tmp 64), none⟩])
 .skip))
 (.seq
 (.seq
 (.ops [
 ⟨(some 66), .move (.tmp 0), none⟩,
 ⟨(some 67), .call 46 [(.tmp 66)], none⟩,
 ⟨(some 68), .move (.tmp 67), none⟩,
 ⟨(some 69), .off (.tmp 3) 4, (some (68, true))⟩,
 ⟨(some 70), .load 1 false (.tmp 69), (some (68, true))⟩,
 ⟨(some 71), .idxSl (.tmp 70) (.const (.int .i64 2)) 8, (some (68, true))⟩,
 ⟨(some 72), .off (.tmp 71) 2, (some (68, true))⟩,
 ⟨(some 73), .load 1 false (.tmp 72), (some (68, true))⟩,
 ⟨(some 74), .lenSl (.tmp 73), (some (68, true))⟩,
 ⟨(some 75), .bin .eql (.tmp 74) (.const (.int .i64 3)), (some (68, true))⟩,
 ⟨(some 76), .pick (.tmp 68) (.tmp 75) (.const (.bool false)), none⟩])
 (.cond (.tmp 76)
 (.ops [
 ⟨(some 77), .off (.tmp 3) 7, none⟩,
 ⟨(some 78), .load 1 false (.tmp 77), none⟩,
 ⟨(some 79), .build [(.int .i64 0), (.int .i64 0), (.int .i64 0), (.int .i64 0), (.int .i64 0), (.int .i64 0)] [(0, 1, (.const (.int .i64 3))), (1, 1, (.const (.int .i64 2))), (4, 1, (.const (.int .i64 1)))], none⟩,
 ⟨(some 80), .bslice 1 [(.int .i64 0), (.int .i64 0), (.int .i64 0), (.int .i64 0), (.int .i64 0), (.int .i64 0)] [(0, 6, (.tmp 79))], none⟩,
 ⟨(some 81), .append 6 48 (.tmp 78) (.tmp 80), none⟩,
 ⟨(some 82), .off (.tmp 3) 7, none⟩,
 ⟨none, .store 1 (.tmp 82) (.tmp 81), none⟩])
 .skip))
 (.seq
 (.seq
 (.ops [
 ⟨(some 83), .move (.tmp 0), none⟩,
 ⟨(some 84), .call 46 [(.tmp 83)], none⟩,
 ⟨(some 85), .move (.tmp 84), none⟩,
 ⟨(some 86), .off (.tmp 3) 4, (some (85, true))⟩,
 ⟨(some 87), .load 1 false (.tmp 86), (some (85, true))⟩,
 ⟨(some 88), .idxSl (.tmp 87) (.const (.int .i64 3)) 8, (some (85, true))⟩,
 ⟨(some 89), .off (.tmp 88) 2, (some (85, true))⟩,
 ⟨(some 90), .load 1 false (.tmp 89), (some (85, true))⟩,
 ⟨(some 91), .lenSl (.tmp 90), (some (85, true))⟩,
 ⟨(some 92), .bin .eql (.tmp 91) (.const (.int .i64 3)), (some (85, true))⟩,
 ⟨(some 93), .pick (.tmp 85) (.tmp 92) (.const (.bool false)), none⟩])
 (.cond (.tmp 93)
 (.ops [
 ⟨(some 94), .off (.tmp 3) 7, none⟩,
 ⟨(some 95), .load 1 false (.tmp 94), none⟩,
 ⟨(some 96), .build [(.int .i64 0), (.int .i64 0), (.int .i64 0), (.int .i64 0), (.int .i64 0), (.int .i64 0)] [(0, 1, (.const (.int .i64 4))), (1, 1, (.const (.int .i64 1))), (4, 1, (.const (.int .i64 1)))], none⟩,
 ⟨(some 97), .build [(.int .i64 0), (.int .i64 0), (.int .i64 0), (.int .i64 0), (.int .i64 0), (.int .i64 0)] [(0, 1, (.const (.int .i64 4))), (2, 1, (.const (.int .i64 5))), (4, 1, (.const (.int .i64 1)))], none⟩,
 ⟨(some 98), .bslice 2 [(.int .i64 0), (.int .i64 0), (.int .i64 0), (.int .i64 0), (.int .i64 0), (.int .i64 0), (.int .i64 0), (.int .i64 0), (.int .i64 0), (.int .i64 0), (.int .i64 0), (.int .i64 0)] [(0, 6, (.tmp 96)), (6, 6, (.tmp 97))], none⟩,
 ⟨(some 99), .append 6 48 (.tmp 95) (.tmp 98), none⟩,
 ⟨(some 100), .off (.tmp 3) 7, none⟩,
 ⟨none, .store 1 (.tmp 100) (.tmp 99), none⟩])
 .skip))
 (.seq
 (.ops [
 ⟨(some 101), .load 10 true (.tmp 3), none⟩,
 ⟨none, .store 10 (.tmp 2) (.tmp 101), none⟩])
 .ret))))))))))))⟩
theorem t28_ok : goodFn Try.prog 28 = true ∧ cfn Try.prog 28 = t28 := ⟨by kernel_rfl, by kernel_rfl⟩

/-- matchguard/refs.matched -/
def t29 : NFn := ⟨21, [(.cell 4 2 true)],
 (.seq
 (.ops [
 ⟨(some 2), .box (.tmp 0), none⟩,
 ⟨(some 4), .alloc [(.int .u64 0), (.int .u64 0)], none⟩])
 (.seq
 (.seq
 (.ops [
 ⟨(some 5), .move (.tmp 1), none⟩,
 ⟨(some 6), .bin .lss (.tmp 5) (.const (.int .i64 0)), none⟩,
 ⟨(some 7), .move (.tmp 6), none⟩,
 ⟨(some 8), .move (.tmp 1), (some (7, false))⟩,
 ⟨(some 9), .off (.tmp 2) 1, (some (7, false))⟩,
 ⟨(some 10), .load 1 false (.tmp 9), (some (7, false))⟩,
 ⟨(some 11), .lenSl (.tmp 10), (some (7, false))⟩,
 ⟨(some 12), .bin .geq (.tmp 8) (.tmp 11), (some (7, false))⟩,
 ⟨(some 13), .pick (.tmp 7) (.const (.bool true)) (.tmp 12), none⟩])
 (.cond (.tmp 13)
 (.seq
 (.ops [
 ⟨(some 14), .build [(.int .u64 0), (.int .u64 0)] [], none⟩,
 ⟨none, .store 2 (.tmp 4) (.tmp 14), none⟩])
 .ret)
 .skip))
 (.seq
 (.ops [
 ⟨(some 15), .off (.tmp 2) 1, none⟩,
 ⟨(some 16), .load 1 false (.tmp 15), none⟩,
 ⟨(some 17), .move (.tmp 1), none⟩,
 ⟨(some 18), .idxSl (.tmp 16) (.tmp 17) 8, none⟩,
 ⟨(some 19), .off (.tmp 18) 1, none⟩,
 ⟨(some 20), .load 2 true (.tmp 19), none⟩,
 ⟨none, .store 2 (.tmp 4) (.tmp 20), none⟩])
 .ret)))⟩
theorem t29_ok : goodFn Try.prog 29 = true ∧ cfn Try.prog 29 = t29 := ⟨by kernel_rfl, by kernel_rfl⟩

/-- matchguard/refs.argument -/
def t30 : NFn := ⟨20, [(.cell 4 2 true)],
 (.seq
 (.ops [
 ⟨(some 2), .box (.tmp 0), none⟩,
 ⟨(some 4), .alloc [(.int .u64 0), (.int .u64 0)], none⟩])
 (.seq
 (.seq
 (.ops [
 ⟨(some 5), .move (.tmp 1), none⟩,
 ⟨(some 6), .bin .lss (.tmp 5) (.const (.int .i64 0)), none⟩,
 ⟨(some 7), .move (.tmp 6), none⟩,
 ⟨(some 8), .move (.tmp 1), (some (7, false))⟩,
 ⟨(some 9), .off (.tmp 2) 4, (some (7, false))⟩,
 ⟨(some 10), .load 1 false (.tmp 9), (some (7, false))⟩,
 ⟨(some 11), .lenSl (.tmp 10), (some (7, false))⟩,
 ⟨(some 12), .bin .geq (.tmp 8) (.tmp 11), (some (7, false))⟩,
 ⟨(some 13), .pick (.tmp 7) (.const (.bool true)) (.tmp 12), none⟩])
 (.cond (.tmp 13)
 (.seq
 (.ops [
 ⟨(some 14), .build [(.int .u64 0), (.int .u64 0)] [], none⟩,
 ⟨none, .store 2 (.tmp 4) (.tmp 14), none⟩])
 .ret)
 .skip))
 (.seq
 (.ops [
 ⟨(some 15), .off (.tmp 2) 4, none⟩,
 ⟨(some 16), .load 1 false (.tmp 15), none⟩,
 ⟨(some 17), .move (.tmp 1), none⟩,
 ⟨(some 18), .idxSl (.tmp 16) (.tmp 17) 2, none⟩,
 ⟨(some 19), .load 2 true (.tmp 18), none⟩,
 ⟨none, .store 2 (.tmp 4) (.tmp 19), none⟩])
 .ret)))⟩
theorem t30_ok : goodFn Try.prog 30 = true ∧ cfn Try.prog 30 = t30 := ⟨by kernel_rfl, by kernel_rfl⟩

/-- slices.Contains[[]matchguard/refs.Target,matchguard/refs.Target] -/
def t31 : NFn := ⟨9, [(.tmp 4)],
 (.seq
 (.ops [
 ⟨(some 3), .box (.tmp 1), none⟩,
 ⟨(some 4), .move (.const (.bool false)), none⟩])
 (.seq
 (.ops [
 ⟨(some 5), .move (.tmp 0), none⟩,
 ⟨(some 6), .load 4 true (.tmp 3), none⟩,
 ⟨(some 7), .call 47 [(.tmp 5), (.tmp 6)], none⟩,
 ⟨(some 8), .bin .geq (.tmp 7) (.const (.int .i64 0)), none⟩,
 ⟨(some 4), .move (.tmp 8), none⟩])
 .ret))⟩
theorem t31_ok : goodFn Try.prog 31 = true ∧ cfn Try.prog 31 = t31 := ⟨by kernel_rfl, by kernel_rfl⟩

/-- (*matchguard/refs.Counts).enter -/
def t32 : NFn := ⟨44, [],
 (.seq
 (.ops [
 ⟨(some 4), .box (.tmp 1), none⟩])
 (.seq
 (.seq
 (.ops [
 ⟨(some 10), .move (.tmp 0), none⟩,
 ⟨(some 11), .eq false false [.ptr] (.tmp 10) (.const (.ptr none)), none⟩])
 (.cond (.tmp 11)
 .ret
 .skip))
 (.seq
 (.seq
 (.draw 0 [
 ⟨0, ⟨(some 12), .move (.tmp 0), none⟩, [], 0⟩,
 ⟨1, ⟨(some 13), .nilCheck (.tmp 12), none⟩, [0], 0⟩,
 ⟨2, ⟨(some 14), .off (.tmp 13) 0, none⟩, [1, 0], 0⟩,
 ⟨3, ⟨(some 15), .load 10 true (.tmp 14), none⟩, [2, 1, 0], 0⟩,
 ⟨4, ⟨(some 16), .load 5 true (.tmp 4), none⟩, [], 0⟩,
 ⟨5, ⟨(some 17), .call 11 [(.tmp 15), (.tmp 16)], none⟩, [3, 2, 1, 0, 4], 0⟩,
 ⟨6, ⟨(some 18), .lenSl (.tmp 17), none⟩, [5, 3, 2, 1, 0, 4], 0⟩,
 ⟨7, ⟨(some 19), .move (.const (.int .i64 0)), none⟩, [], 0⟩])
 (.block 0
 (.loop
 (.seq
 (.ops [
 ⟨(some 20), .bin .lss (.tmp 19) (.tmp 18), none⟩])
 (.seq
 (.cond (.tmp 20)
 .skip
 (.exit 0))
 (.seq
 (.block 1
 (.seq
 (.ops [
 ⟨(some 21), .idxSl (.tmp 17) (.tmp 19) 4, none⟩,
 ⟨(some 22), .load 4 true (.tmp 21), none⟩,
 ⟨(some 7), .alloc [(.int .i64 0), (.int .i64 0), (.int .u64 0), (.int .u64 0)], none⟩,
 ⟨none, .store 4 (.tmp 7) (.tmp 22), none⟩])
 (.ops [
 ⟨(some 23), .move (.tmp 0), none⟩,
 ⟨(some 24), .load 4 true (.tmp 7), none⟩,
 ⟨(some 25), .move (.tmp 2), none⟩,
 ⟨(some 26), .call 48 [(.tmp 23), (.tmp 24), (.tmp 25), (.const (.int .i64 0))], none⟩])))
 (.ops [
 ⟨(some 27), .bin .add (.tmp 19) (.const (.int .i64 1)), none⟩,
 ⟨(some 19), .move (.tmp 27), none⟩])))))))
 (.seq
 (.draw 0 [
 ⟨0, ⟨(some 28), .move (.tmp 0), none⟩, [], 0⟩,
 ⟨1, ⟨(some 29), .nilCheck (.tmp 28), none⟩, [0], 0⟩,
 ⟨2, ⟨(some 30), .off (.tmp 29) 0, none⟩, [1, 0], 0⟩,
 ⟨3, ⟨(some 31), .load 10 true (.tmp 30), none⟩, [2, 1, 0], 0⟩,
 ⟨4, ⟨(some 32), .load 5 true (.tmp 4), none⟩, [], 0⟩,
 ⟨5, ⟨(some 33), .call 13 [(.tmp 31), (.tmp 32)], none⟩, [3, 2, 1, 0, 4], 0⟩,
 ⟨6, ⟨(some 34), .lenSl (.tmp 33), none⟩, [5, 3, 2, 1, 0, 4], 0⟩,
 ⟨7, ⟨(some 35), .move (.const (.int .i64 0)), none⟩, [], 0⟩])
 (.block 2
 (.loop
 (.seq
 (.ops [
 ⟨(some 36), .bin .lss (.tmp 35) (.tmp 34), none⟩])
 (.seq
 (.cond (.tmp 36)
 .skip
 (.exit 2))
 (.seq
 (.block 3
 (.seq
 (.ops [
 ⟨(some 37), .idxSl (.tmp 33) (.tmp 35) 4, none⟩,
 ⟨(some 38), .load 4 true (.tmp 37), none⟩,
 ⟨(some 9), .alloc [(.int .i64 0), (.int .i64 0), (.int .u64 0), (.int .u64 0)], none⟩,
 ⟨none, .store 4 (.tmp 9) (.tmp 38), none⟩])
 (.ops [
 ⟨(some 39), .move (.tmp 0), none⟩,
 ⟨(some 40), .load 4 true (.tmp 9), none⟩,
 ⟨(some 41), .move (.tmp 2), none⟩,
 ⟨(some 42), .call 48 [(.tmp 39), (.tmp 40), (.const (.int .i64 0)), (.tmp 41)], none⟩])))
 (.ops [
 ⟨(some 43), .bin .add (.tmp 35) (.const (.int .i64 1)), none⟩,
 ⟨(some 35), .move (.tmp 43), none⟩]))))))))))⟩
theorem t32_ok : goodFn Try.prog 32 = true ∧ cfn Try.prog 32 = t32 := ⟨by kernel_rfl, by kernel_rfl⟩

/-- (*matchguard/matchguardcase.Codes).match -/
def t33 : NFn := ⟨120, [(.cell 6 8 true)],
 (.seq
 (.ops [
 ⟨(some 4), .box (.tmp 1), none⟩,
 ⟨(some 5), .box (.tmp 2), none⟩,
 ⟨(some 6), .alloc [(.bool false), (.int .u64 0), (.int .u64 0), (.int .u64 0), (.int .u64 0), (.int .i64 0), (.int .u64 0), (.int .u64 0)], none⟩])
 (.seq
 (.ops [
 ⟨(some 12), .load 10 true (.tmp 4), none⟩,
 ⟨(some 13), .off (.tmp 5) 1, none⟩,
 ⟨(some 14), .load 1 false (.tmp 13), none⟩,
 ⟨(some 15), .call 49 [(.tmp 12), (.tmp 14)], none⟩,
 ⟨(some 7), .move (.tmp 15), none⟩])
 (.seq
 (.ops [
 ⟨(some 16), .move (.tmp 0), none⟩,
 ⟨(some 17), .call 20 [(.tmp 16), (.const (.int .i64 256))], none⟩,
 ⟨(some 18), .conv .u64 (.tmp 17), none⟩,
 ⟨(some 19), .bin .shl (.tmp 18) (.const (.int .u64 24)), none⟩,
 ⟨(some 20), .move (.tmp 0), none⟩,
 ⟨(some 21), .call 20 [(.tmp 20), (.const (.int .i64 16))], none⟩,
 ⟨(some 22), .conv .u64 (.tmp 21), none⟩,
 ⟨(some 23), .bin .shl (.tmp 22) (.const (.int .u64 8)), none⟩,
 ⟨(some 24), .bin .or (.tmp 19) (.tmp 23), none⟩,
 ⟨(some 25), .move (.tmp 0), none⟩,
 ⟨(some 26), .call 20 [(.tmp 25), (.const (.int .i64 16))], none⟩,
 ⟨(some 27), .conv .u64 (.tmp 26), none⟩,
 ⟨(some 28), .bin .or (.tmp 24) (.tmp 27), none⟩,
 ⟨(some 29), .build [(.int .u64 0), (.int .u64 0)] [(1, 1, (.tmp 28))], none⟩,
 ⟨(some 30), .move (.tmp 7), none⟩,
 ⟨(some 31), .call 35 [(.tmp 29), (.tmp 30)], none⟩,
 ⟨(some 8), .alloc [(.int .u64 0), (.int .u64 0)], none⟩,
 ⟨none, .store 2 (.tmp 8) (.tmp 31), none⟩])
 (.seq
 (.seq
 (.ops [
 ⟨(some 32), .off (.tmp 5) 2, none⟩,
 ⟨(some 33), .load 1 false (.tmp 32), none⟩])
 (.block 0
 (.seq
 (.ops [
 ⟨(some 37), .bin .eql (.tmp 33) (.const (.int .i64 2)), none⟩,
 ⟨(some 36), .move (.tmp 37), none⟩])
 (.cond (.tmp 36)
 (.seq
 (.ops [
 ⟨(some 38), .move (.tmp 0), none⟩,
 ⟨(some 39), .call 20 [(.tmp 38), (.const (.int .i64 5))], none⟩,
 ⟨(some 40), .bin .gtr (.tmp 39) (.const (.int .i64 0)), none⟩])
 (.cond (.tmp 40)
 (.seq
 (.ops [
 ⟨(some 41), .move (.tmp 7), none⟩,
 ⟨(some 42), .move (.tmp 0), none⟩,
 ⟨(some 43), .move (.tmp 7), none⟩,
 ⟨(some 44), .call 20 [(.tmp 42), (.tmp 43)], none⟩,
 ⟨(some 45), .bin .add (.const (.int .i64 1)) (.tmp 44), none⟩,
 ⟨(some 46), .bslice 5 [(.int .i64 0), (.int .i64 0), (.int .i64 0), (.int .i64 0), (.int .i64 0)] [(0, 1, (.tmp 41)), (1, 1, (.const (.int .i64 8))), (2, 1, (.const (.int .i64 16))), (3, 1, (.const (.int .i64 1))), (4, 1, (.tmp 45))], none⟩,
 ⟨(some 47), .move (.tmp 0), none⟩,
 ⟨(some 48), .call 20 [(.tmp 47), (.const (.int .i64 5))], none⟩,
 ⟨(some 49), .idxSl (.tmp 46) (.tmp 48) 1, none⟩,
 ⟨(some 50), .load 1 false (.tmp 49), none⟩,
 ⟨(some 9), .move (.tmp 50), none⟩])
 (.seq
 (.draw 0 [
 ⟨0, ⟨(some 51), .move (.tmp 9), none⟩, [], 0⟩,
 ⟨1, ⟨(some 52), .off (.tmp 8) 1, none⟩, [], 0⟩,
 ⟨2, ⟨(some 53), .load 1 false (.tmp 52), none⟩, [1], 0⟩,
 ⟨3, ⟨(some 54), .move (.tmp 7), none⟩, [], 0⟩,
 ⟨4, ⟨(some 55), .move (.tmp 9), none⟩, [], 0⟩,
 ⟨5, ⟨(some 56), .call 50 [(.tmp 54), (.tmp 55)], none⟩, [3, 4], 0⟩,
 ⟨6, ⟨(some 57), .fieldv (.tmp 56) 1 1 false, none⟩, [5, 3, 4], 0⟩,
 ⟨7, ⟨(some 58), .bin .and (.tmp 53) (.tmp 57), none⟩, [2, 1, 6, 5, 3, 4], 0⟩,
 ⟨8, ⟨(some 59), .build [(.int .u64 0), (.int .u64 0)] [(1, 1, (.tmp 58))], none⟩, [7, 2, 1, 6, 5, 3, 4], 0⟩,
 ⟨9, ⟨(some 60), .build [(.bool false), (.int .u64 0), (.int .u64 0), (.int .u64 0), (.int .u64 0), (.int .i64 0), (.int .u64 0), (.int .u64 0)] [(0, 1, (.const (.bool true))), (5, 1, (.tmp 51)), (1, 2, (.tmp 59))], none⟩, [0, 8, 7, 2, 1, 6, 5, 3, 4], 0⟩,
 ⟨10, ⟨none, .store 8 (.tmp 6) (.tmp 60), none⟩, [9, 0, 8, 7, 2, 1, 6, 5, 3, 4], 0⟩])
 .ret))
 .skip))
 (.seq
 (.ops [
 ⟨(some 62), .bin .eql (.tmp 33) (.const (.int .i64 3)), none⟩,
 ⟨(some 61), .move (.tmp 62), none⟩])
 (.cond (.tmp 61)
 (.seq
 (.ops [
 ⟨(some 63), .move (.tmp 0), none⟩,
 ⟨(some 64), .call 20 [(.tmp 63), (.const (.int .i64 256))], none⟩,
 ⟨(some 65), .bslice 5 [(.int .i64 0), (.int .i64 0), (.int .i64 0), (.int .i64 0), (.int .i64 0)] [(0, 1, (.const (.int .i64 255))), (1, 1, (.const (.int .i64 15))), (2, 1, (.const (.int .i64 1))), (3, 1, (.const (.int .i64 12))), (4, 1, (.tmp 64))], none⟩,
 ⟨(some 66), .move (.tmp 0), none⟩,
 ⟨(some 67), .call 20 [(.tmp 66), (.const (.int .i64 5))], none⟩,
 ⟨(some 68), .idxSl (.tmp 65) (.tmp 67) 1, none⟩,
 ⟨(some 69), .load 1 false (.tmp 68), none⟩,
 ⟨(some 70), .conv .u64 (.tmp 69), none⟩,
 ⟨(some 71), .build [(.int .u64 0), (.int .u64 0)] [(1, 1, (.tmp 70))], none⟩,
 ⟨(some 72), .move (.tmp 7), none⟩,
 ⟨(some 73), .call 35 [(.tmp 71), (.tmp 72)], none⟩,
 ⟨(some 10), .alloc [(.int .u64 0), (.int .u64 0)], none⟩,
 ⟨none, .store 2 (.tmp 10) (.tmp 73), none⟩])
 (.seq
 (.ops [
 ⟨(some 74), .off (.tmp 10) 1, none⟩,
 ⟨(some 75), .load 1 false (.tmp 74), none⟩,
 ⟨(some 76), .bin .neq (.tmp 75) (.const (.int .u64 0)), none⟩])
 (.cond (.tmp 76)
 (.seq
 (.ops [
 ⟨(some 77), .load 2 true (.tmp 10), none⟩,
 ⟨(some 78), .off (.tmp 8) 1, none⟩,
 ⟨(some 79), .load 1 false (.tmp 78), none⟩,
 ⟨(some 80), .off (.tmp 10) 1, none⟩,
 ⟨(some 81), .load 1 false (.tmp 80), none⟩,
 ⟨(some 82), .bin .and (.tmp 79) (.tmp 81), none⟩,
 ⟨(some 83), .build [(.int .u64 0), (.int .u64 0)] [(1, 1, (.tmp 82))], none⟩,
 ⟨(some 84), .build [(.bool false), (.int .u64 0), (.int .u64 0), (.int .u64 0), (.int .u64 0), (.int .i64 0), (.int .u64 0), (.int .u64 0)] [(0, 1, (.const (.bool true))), (3, 2, (.tmp 77)), (1, 2, (.tmp 83))], none⟩,
 ⟨none, .store 8 (.tmp 6) (.tmp 84), none⟩])
 .ret)
 .skip)))
 (.seq
 (.ops [
 ⟨(some 86), .bin .eql (.tmp 33) (.const (.int .i64 4)), none⟩,
 ⟨(some 85), .move (.tmp 86), none⟩])
 (.cond (.tmp 85)
 (.seq
 (.draw 0 [
 ⟨0, ⟨(some 87), .off (.tmp 8) 1, none⟩, [], 0⟩,
 ⟨1, ⟨(some 88), .load 1 false (.tmp 87), none⟩, [0], 0⟩,
 ⟨2, ⟨(some 89), .move (.tmp 0), none⟩, [], 0⟩,
 ⟨3, ⟨(some 90), .call 20 [(.tmp 89), (.const (.int .i64 256))], none⟩, [2], 0⟩,
 ⟨4, ⟨(some 91), .conv .u64 (.tmp 90), none⟩, [3, 2], 0⟩,
 ⟨5, ⟨(some 92), .bin .add (.tmp 88) (.tmp 91), none⟩, [1, 0, 4, 3, 2], 0⟩,
 ⟨6, ⟨(some 93), .move (.tmp 7), none⟩, [], 0⟩,
 ⟨7, ⟨(some 94), .conv .u64 (.tmp 93), none⟩, [6], 0⟩,
 ⟨8, ⟨(some 95), .bin .shl (.const (.int .u64 1)) (.tmp 94), none⟩, [7, 6], 0⟩,
 ⟨9, ⟨(some 96), .bin .sub (.tmp 95) (.const (.int .u64 1)), none⟩, [8, 7, 6], 0⟩,
 ⟨10, ⟨(some 97), .minmax false [(.tmp 92), (.tmp 96)], none⟩, [5, 1, 0, 4, 3, 2, 9, 8, 7, 6], 0⟩,
 ⟨11, ⟨(some 11), .move (.tmp 97), none⟩, [10, 5, 1, 0, 4, 3, 2, 9, 8, 7, 6], 0⟩])
 (.seq
 (.ops [
 ⟨(some 98), .move (.tmp 0), none⟩,
 ⟨(some 99), .call 20 [(.tmp 98), (.const (.int .i64 5))], none⟩,
 ⟨(some 100), .bin .gtr (.tmp 99) (.const (.int .i64 0)), none⟩,
 ⟨(some 101), .move (.tmp 100), none⟩,
 ⟨(some 102), .off (.tmp 8) 1, (some (101, true))⟩,
 ⟨(some 103), .load 1 false (.tmp 102), (some (101, true))⟩,
 ⟨(some 104), .bin .eql (.tmp 103) (.const (.int .u64 0)), (some (101, true))⟩,
 ⟨(some 105), .move (.tmp 104), (some (101, true))⟩,
 ⟨(some 106), .move (.tmp 11), (some (105, true))⟩,
 ⟨(some 107), .move (.tmp 7), (some (105, true))⟩,
 ⟨(some 108), .conv .u64 (.tmp 107), (some (105, true))⟩,
 ⟨(some 109), .bin .shl (.const (.int .u64 1)) (.tmp 108), (some (105, true))⟩,
 ⟨(some 110), .bin .sub (.tmp 109) (.const (.int .u64 1)), (some (105, true))⟩,
 ⟨(some 111), .bin .eql (.tmp 106) (.tmp 110), (some (105, true))⟩,
 ⟨(some 112), .pick (.tmp 105) (.tmp 111) (.const (.bool false)), (some (101, true))⟩,
 ⟨(some 113), .un .not (.tmp 112), (some (101, true))⟩,
 ⟨(some 114), .pick (.tmp 101) (.tmp 113) (.const (.bool false)), none⟩])
 (.cond (.tmp 114)
 (.seq
 (.ops [
 ⟨(some 115), .load 2 true (.tmp 8), none⟩,
 ⟨(some 116), .move (.tmp 11), none⟩,
 ⟨(some 117), .build [(.int .u64 0), (.int .u64 0)] [(1, 1, (.tmp 116))], none⟩,
 ⟨(some 118), .build [(.bool false), (.int .u64 0), (.int .u64 0), (.int .u64 0), (.int .u64 0), (.int .i64 0), (.int .u64 0), (.int .u64 0)] [(0, 1, (.const (.bool true))), (1, 2, (.tmp 115)), (6, 2, (.tmp 117))], none⟩,
 ⟨none, .store 8 (.tmp 6) (.tmp 118), none⟩])
 .ret)
 .skip)))
 (.seq
 (.ops [
 ⟨(some 34), .load 2 true (.tmp 8), none⟩,
 ⟨(some 35), .build [(.bool false), (.int .u64 0), (.int .u64 0), (.int .u64 0), (.int .u64 0), (.int .i64 0), (.int .u64 0), (.int .u64 0)] [(0, 1, (.const (.bool true))), (1, 2, (.tmp 34))], none⟩,
 ⟨none, .store 8 (.tmp 6) (.tmp 35), none⟩])
 .ret)))))))))
 (.seq
 (.ops [
 ⟨(some 119), .build [(.bool false), (.int .u64 0), (.int .u64 0), (.int .u64 0), (.int .u64 0), (.int .i64 0), (.int .u64 0), (.int .u64 0)] [], none⟩,
 ⟨none, .store 8 (.tmp 6) (.tmp 119), none⟩])
 .ret)))))⟩
theorem t33_ok : goodFn Try.prog 33 = true ∧ cfn Try.prog 33 = t33 := ⟨by kernel_rfl, by kernel_rfl⟩

/-- matchguard/matchguardcase.ActionIn -/
def t34 : NFn := ⟨21, [(.cell 4 5 true)],
 (.seq
 (.ops [
 ⟨(some 2), .box (.tmp 0), none⟩,
 ⟨(some 4), .alloc [(.int .i64 0), (.str ⟨#[]⟩), (.slice none 0 (.fix 0)), (.slice none 0 (.fix 0)), (.str ⟨#[]⟩)], none⟩])
 (.seq
 (.seq
 (.ops [
 ⟨(some 7), .off (.tmp 2) 3, none⟩,
 ⟨(some 8), .load 1 false (.tmp 7), none⟩,
 ⟨(some 9), .lenSl (.tmp 8), none⟩,
 ⟨(some 10), .move (.const (.int .i64 0)), none⟩])
 (.block 0
 (.loop
 (.seq
 (.ops [
 ⟨(some 11), .bin .lss (.tmp 10) (.tmp 9), none⟩])
 (.seq
 (.cond (.tmp 11)
 .skip
 (.exit 0))
 (.seq
 (.block 1
 (.seq
 (.ops [
 ⟨(some 12), .idxSl (.tmp 8) (.tmp 10) 5, none⟩,
 ⟨(some 13), .load 5 true (.tmp 12), none⟩,
 ⟨(some 6), .alloc [(.int .i64 0), (.str ⟨#[]⟩), (.slice none 0 (.fix 0)), (.slice none 0 (.fix 0)), (.str ⟨#[]⟩)], none⟩,
 ⟨none, .store 5 (.tmp 6) (.tmp 13), none⟩])
 (.seq
 (.ops [
 ⟨(some 14), .off (.tmp 6) 0, none⟩,
 ⟨(some 15), .load 1 false (.tmp 14), none⟩,
 ⟨(some 16), .move (.tmp 1), none⟩,
 ⟨(some 17), .bin .eql (.tmp 15) (.tmp 16), none⟩])
 (.cond (.tmp 17)
 (.seq
 (.ops [
 ⟨(some 18), .load 5 true (.tmp 6), none⟩,
 ⟨none, .store 5 (.tmp 4) (.tmp 18), none⟩])
 .ret)
 .skip))))
 (.ops [
 ⟨(some 19), .bin .add (.tmp 10) (.const (.int .i64 1)), none⟩,
 ⟨(some 10), .move (.tmp 19), none⟩])))))))
 (.seq
 (.ops [
 ⟨(some 20), .build [(.int .i64 0), (.str ⟨#[]⟩), (.slice none 0 (.fix 0)), (.slice none 0 (.fix 0)), (.str ⟨#[]⟩)] [], none⟩,
 ⟨none, .store 5 (.tmp 4) (.tmp 20), none⟩])
 .ret)))⟩
theorem t34_ok : goodFn Try.prog 34 = true ∧ cfn Try.prog 34 = t34 := ⟨by kernel_rfl, by kernel_rfl⟩

/-- matchguard/matchguardcase.Low -/
def t35 : NFn := ⟨35, [(.cell 4 2 true)],
 (.seq
 (.ops [
 ⟨(some 2), .box (.tmp 0), none⟩,
 ⟨(some 4), .alloc [(.int .u64 0), (.int .u64 0)], none⟩])
 (.seq
 (.block 0
 (.seq
 (.ops [
 ⟨(some 6), .move (.tmp 1), none⟩,
 ⟨(some 7), .bin .geq (.tmp 6) (.const (.int .i64 128)), none⟩,
 ⟨(some 5), .move (.tmp 7), none⟩])
 (.cond (.tmp 5)
 (.seq
 (.ops [
 ⟨(some 8), .load 2 true (.tmp 2), none⟩,
 ⟨none, .store 2 (.tmp 4) (.tmp 8), none⟩])
 .ret)
 (.seq
 (.ops [
 ⟨(some 10), .move (.tmp 1), none⟩,
 ⟨(some 11), .bin .geq (.tmp 10) (.const (.int .i64 64)), none⟩,
 ⟨(some 9), .move (.tmp 11), none⟩])
 (.cond (.tmp 9)
 (.seq
 (.ops [
 ⟨(some 12), .off (.tmp 2) 0, none⟩,
 ⟨(some 13), .load 1 false (.tmp 12), none⟩,
 ⟨(some 14), .move (.tmp 1), none⟩,
 ⟨(some 15), .bin .sub (.tmp 14) (.const (.int .i64 64)), none⟩,
 ⟨(some 16), .conv .u64 (.tmp 15), none⟩,
 ⟨(some 17), .bin .shl (.const (.int .u64 1)) (.tmp 16), none⟩,
 ⟨(some 18), .bin .sub (.tmp 17) (.const (.int .u64 1)), none⟩,
 ⟨(some 19), .bin .and (.tmp 13) (.tmp 18), none⟩,
 ⟨(some 20), .off (.tmp 2) 1, none⟩,
 ⟨(some 21), .load 1 false (.tmp 20), none⟩,
 ⟨(some 22), .build [(.int .u64 0), (.int .u64 0)] [(0, 1, (.tmp 19)), (1, 1, (.tmp 21))], none⟩,
 ⟨none, .store 2 (.tmp 4) (.tmp 22), none⟩])
 .ret)
 (.seq
 (.ops [
 ⟨(some 24), .move (.tmp 1), none⟩,
 ⟨(some 25), .bin .leq (.tmp 24) (.const (.int .i64 0)), none⟩,
 ⟨(some 23), .move (.tmp 25), none⟩])
 (.cond (.tmp 23)
 (.seq
 (.ops [
 ⟨(some 26), .build [(.int .u64 0), (.int .u64 0)] [], none⟩,
 ⟨none, .store 2 (.tmp 4) (.tmp 26), none⟩])
 .ret)
 .skip)))))))
 (.seq
 (.ops [
 ⟨(some 27), .off (.tmp 2) 1, none⟩,
 ⟨(some 28), .load 1 false (.tmp 27), none⟩,
 ⟨(some 29), .move (.tmp 1), none⟩,
 ⟨(some 30), .conv .u64 (.tmp 29), none⟩,
 ⟨(some 31), .bin .shl (.const (.int .u64 1)) (.tmp 30), none⟩,
 ⟨(some 32), .bin .sub (.tmp 31) (.const (.int .u64 1)), none⟩,
 ⟨(some 33), .bin .and (.tmp 28) (.tmp 32), none⟩,
 ⟨(some 34), .build [(.int .u64 0), (.int .u64 0)] [(1, 1, (.tmp 33))], none⟩,
 ⟨none, .store 2 (.tmp 4) (.tmp 34), none⟩])
 .ret)))⟩
theorem t35_ok : goodFn Try.prog 35 = true ∧ cfn Try.prog 35 = t35 := ⟨by kernel_rfl, by kernel_rfl⟩

/-- slices.SortFunc[[]matchguard/refs.Count,matchguard/refs.Count] -/
def t36 : NFn := ⟨14, [],
 (.seq
 (.ops [
 ⟨(some 5), .move (.tmp 0), none⟩,
 ⟨(some 6), .lenSl (.tmp 5), none⟩,
 ⟨(some 4), .move (.tmp 6), none⟩])
 (.ops [
 ⟨(some 7), .move (.tmp 0), none⟩,
 ⟨(some 8), .move (.tmp 4), none⟩,
 ⟨(some 9), .move (.tmp 4), none⟩,
 ⟨(some 10), .conv .u64 (.tmp 9), none⟩,
 ⟨(some 11), .call 52 [(.tmp 10)], none⟩,
 ⟨(some 12), .move (.tmp 1), none⟩,
 ⟨(some 13), .call 51 [(.tmp 7), (.const (.int .i64 0)), (.tmp 8), (.tmp 11), (.tmp 12)], none⟩]))⟩
theorem t36_ok : goodFn Try.prog 36 = true ∧ cfn Try.prog 36 = t36 := ⟨by kernel_rfl, by kernel_rfl⟩

/-- (*matchguard/refs.Counts).All$1 -/
def t37 : NFn := ⟨28, [(.tmp 4)],
 (.seq
 (.ops [
 ⟨(some 2), .box (.tmp 0), none⟩,
 ⟨(some 3), .box (.tmp 1), none⟩,
 ⟨(some 4), .move (.const (.int .i64 0)), none⟩])
 (.seq
 (.draw 1 [
 ⟨0, ⟨(some 5), .off (.tmp 2) 0, none⟩, [], 0⟩,
 ⟨1, ⟨(some 6), .off (.tmp 5) 0, none⟩, [0], 0⟩,
 ⟨2, ⟨(some 7), .load 1 false (.tmp 6), none⟩, [1, 0], 0⟩,
 ⟨3, ⟨(some 8), .off (.tmp 3) 0, none⟩, [], 0⟩,
 ⟨4, ⟨(some 9), .off (.tmp 8) 0, none⟩, [3], 0⟩,
 ⟨5, ⟨(some 10), .load 1 false (.tmp 9), none⟩, [4, 3], 0⟩,
 ⟨6, ⟨(some 11), .call 39 [(.tmp 7), (.tmp 10)], none⟩, [2, 1, 0, 5, 4, 3], 0⟩,
 ⟨7, ⟨(some 12), .off (.tmp 2) 0, none⟩, [], 0⟩,
 ⟨8, ⟨(some 13), .off (.tmp 12) 1, none⟩, [7], 0⟩,
 ⟨9, ⟨(some 14), .load 1 false (.tmp 13), none⟩, [8, 7], 0⟩,
 ⟨10, ⟨(some 15), .off (.tmp 3) 0, none⟩, [], 0⟩,
 ⟨11, ⟨(some 16), .off (.tmp 15) 1, none⟩, [10], 0⟩,
 ⟨12, ⟨(some 17), .load 1 false (.tmp 16), none⟩, [11, 10], 0⟩,
 ⟨13, ⟨(some 18), .call 39 [(.tmp 14), (.tmp 17)], none⟩, [9, 8, 7, 12, 11, 10, 6, 2, 1, 0, 5, 4, 3], 0⟩,
 ⟨14, ⟨(some 19), .off (.tmp 2) 0, none⟩, [], 0⟩,
 ⟨15, ⟨(some 20), .off (.tmp 19) 2, none⟩, [14], 0⟩,
 ⟨16, ⟨(some 21), .load 2 true (.tmp 20), none⟩, [15, 14], 0⟩,
 ⟨17, ⟨(some 22), .off (.tmp 3) 0, none⟩, [], 0⟩,
 ⟨18, ⟨(some 23), .off (.tmp 22) 2, none⟩, [17], 0⟩,
 ⟨19, ⟨(some 24), .load 2 true (.tmp 23), none⟩, [18, 17], 0⟩,
 ⟨20, ⟨(some 25), .call 40 [(.tmp 21), (.tmp 24)], none⟩, [16, 15, 14, 19, 18, 17, 13, 9, 8, 7, 12, 11, 10, 6, 2, 1, 0, 5, 4, 3], 0⟩,
 ⟨21, ⟨(some 26), .bslice 3 [(.int .i64 0), (.int .i64 0), (.int .i64 0)] [(0, 1, (.tmp 11)), (1, 1, (.tmp 18)), (2, 1, (.tmp 25))], none⟩, [6, 2, 1, 0, 5, 4, 3, 13, 9, 8, 7, 12, 11, 10, 20, 16, 15, 14, 19, 18, 17], 0⟩,
 ⟨22, ⟨(some 27), .call 38 [(.tmp 26)], none⟩, [21, 6, 2, 1, 0, 5, 4, 3, 13, 9, 8, 7, 12, 11, 10, 20, 16, 15, 14, 19, 18, 17], 1⟩,
 ⟨23, ⟨(some 4), .move (.tmp 27), none⟩, [22, 21, 6, 2, 1, 0, 5, 4, 3, 13, 9, 8, 7, 12, 11, 10, 20, 16, 15, 14, 19, 18, 17], 1⟩])
 .ret))⟩
theorem t37_ok : goodFn Try.prog 37 = true ∧ cfn Try.prog 37 = t37 := ⟨by kernel_rfl, by kernel_rfl⟩

/-- cmp.Or[int] -/
def t38 : NFn := ⟨18, [(.tmp 2)],
 (.seq
 (.ops [
 ⟨(some 2), .move (.const (.int .i64 0)), none⟩])
 (.seq
 (.ops [
 ⟨(some 3), .move (.const (.int .i64 0)), none⟩])
 (.seq
 (.seq
 (.ops [
 ⟨(some 6), .move (.tmp 0), none⟩,
 ⟨(some 7), .lenSl (.tmp 6), none⟩,
 ⟨(some 8), .move (.const (.int .i64 0)), none⟩])
 (.block 0
 (.loop
 (.seq
 (.ops [
 ⟨(some 9), .bin .lss (.tmp 8) (.tmp 7), none⟩])
 (.seq
 (.cond (.tmp 9)
 .skip
 (.exit 0))
 (.seq
 (.block 1
 (.seq
 (.ops [
 ⟨(some 10), .idxSl (.tmp 6) (.tmp 8) 1, none⟩,
 ⟨(some 11), .load 1 false (.tmp 10), none⟩,
 ⟨(some 5), .move (.tmp 11), none⟩])
 (.seq
 (.ops [
 ⟨(some 12), .move (.tmp 5), none⟩,
 ⟨(some 13), .move (.tmp 3), none⟩,
 ⟨(some 14), .bin .neq (.tmp 12) (.tmp 13), none⟩])
 (.cond (.tmp 14)
 (.seq
 (.ops [
 ⟨(some 15), .move (.tmp 5), none⟩,
 ⟨(some 2), .move (.tmp 15), none⟩])
 .ret)
 .skip))))
 (.ops [
 ⟨(some 16), .bin .add (.tmp 8) (.const (.int .i64 1)), none⟩,
 ⟨(some 8), .move (.tmp 16), none⟩])))))))
 (.seq
 (.ops [
 ⟨(some 17), .move (.tmp 3), none⟩,
 ⟨(some 2), .move (.tmp 17), none⟩])
 .ret))))⟩
theorem t38_ok : goodFn Try.prog 38 = true ∧ cfn Try.prog 38 = t38 := ⟨by kernel_rfl, by kernel_rfl⟩

/-- cmp.Compare[int] -/
def t39 : NFn := ⟨20, [(.tmp 4)],
 (.seq
 (.ops [
 ⟨(some 4), .move (.const (.int .i64 0)), none⟩])
 (.seq
 (.ops [
 ⟨(some 7), .move (.tmp 0), none⟩,
 ⟨(some 8), .call 53 [(.tmp 7)], none⟩,
 ⟨(some 5), .move (.tmp 8), none⟩])
 (.seq
 (.ops [
 ⟨(some 9), .move (.tmp 1), none⟩,
 ⟨(some 10), .call 53 [(.tmp 9)], none⟩,
 ⟨(some 6), .move (.tmp 10), none⟩])
 (.seq
 (.seq
 (.ops [
 ⟨(some 11), .move (.tmp 5), none⟩])
 (.cond (.tmp 11)
 (.seq
 (.seq
 (.ops [
 ⟨(some 12), .move (.tmp 6), none⟩])
 (.cond (.tmp 12)
 (.seq
 (.ops [
 ⟨(some 4), .move (.const (.int .i64 0)), none⟩])
 .ret)
 .skip))
 (.seq
 (.ops [
 ⟨(some 4), .move (.const (.int .i64 (-1))), none⟩])
 .ret))
 .skip))
 (.seq
 (.seq
 (.ops [
 ⟨(some 13), .move (.tmp 6), none⟩])
 (.cond (.tmp 13)
 (.seq
 (.ops [
 ⟨(some 4), .move (.const (.int .i64 1)), none⟩])
 .ret)
 .skip))
 (.seq
 (.seq
 (.ops [
 ⟨(some 14), .move (.tmp 0), none⟩,
 ⟨(some 15), .move (.tmp 1), none⟩,
 ⟨(some 16), .bin .lss (.tmp 14) (.tmp 15), none⟩])
 (.cond (.tmp 16)
 (.seq
 (.ops [
 ⟨(some 4), .move (.const (.int .i64 (-1))), none⟩])
 .ret)
 .skip))
 (.seq
 (.seq
 (.ops [
 ⟨(some 17), .move (.tmp 0), none⟩,
 ⟨(some 18), .move (.tmp 1), none⟩,
 ⟨(some 19), .bin .gtr (.tmp 17) (.tmp 18), none⟩])
 (.cond (.tmp 19)
 (.seq
 (.ops [
 ⟨(some 4), .move (.const (.int .i64 1)), none⟩])
 .ret)
 .skip))
 (.seq
 (.ops [
 ⟨(some 4), .move (.const (.int .i64 0)), none⟩])
 .ret))))))))⟩
theorem t39_ok : goodFn Try.prog 39 = true ∧ cfn Try.prog 39 = t39 := ⟨by kernel_rfl, by kernel_rfl⟩

/-- matchguard/value.Compare -/
def t40 : NFn := ⟨29, [(.tmp 4)],
 (.seq
 (.ops [
 ⟨(some 2), .box (.tmp 0), none⟩,
 ⟨(some 3), .box (.tmp 1), none⟩,
 ⟨(some 4), .move (.const (.int .i64 0)), none⟩])
 (.seq
 (.block 0
 (.seq
 (.ops [
 ⟨(some 6), .load 2 true (.tmp 2), none⟩,
 ⟨(some 7), .load 2 true (.tmp 3), none⟩,
 ⟨(some 8), .eq false true [.int, .int] (.tmp 6) (.tmp 7), none⟩,
 ⟨(some 5), .move (.tmp 8), none⟩])
 (.cond (.tmp 5)
 (.seq
 (.ops [
 ⟨(some 4), .move (.const (.int .i64 0)), none⟩])
 .ret)
 (.seq
 (.ops [
 ⟨(some 10), .off (.tmp 2) 0, none⟩,
 ⟨(some 11), .load 1 false (.tmp 10), none⟩,
 ⟨(some 12), .off (.tmp 3) 0, none⟩,
 ⟨(some 13), .load 1 false (.tmp 12), none⟩,
 ⟨(some 14), .bin .lss (.tmp 11) (.tmp 13), none⟩,
 ⟨(some 15), .move (.tmp 14), none⟩,
 ⟨(some 16), .off (.tmp 2) 0, (some (15, false))⟩,
 ⟨(some 17), .load 1 false (.tmp 16), (some (15, false))⟩,
 ⟨(some 18), .off (.tmp 3) 0, (some (15, false))⟩,
 ⟨(some 19), .load 1 false (.tmp 18), (some (15, false))⟩,
 ⟨(some 20), .bin .eql (.tmp 17) (.tmp 19), (some (15, false))⟩,
 ⟨(some 21), .move (.tmp 20), (some (15, false))⟩,
 ⟨(some 22), .off (.tmp 2) 1, (some (21, true))⟩,
 ⟨(some 23), .load 1 false (.tmp 22), (some (21, true))⟩,
 ⟨(some 24), .off (.tmp 3) 1, (some (21, true))⟩,
 ⟨(some 25), .load 1 false (.tmp 24), (some (21, true))⟩,
 ⟨(some 26), .bin .lss (.tmp 23) (.tmp 25), (some (21, true))⟩,
 ⟨(some 27), .pick (.tmp 21) (.tmp 26) (.const (.bool false)), (some (15, false))⟩,
 ⟨(some 28), .pick (.tmp 15) (.const (.bool true)) (.tmp 27), none⟩,
 ⟨(some 9), .move (.tmp 28), none⟩])
 (.cond (.tmp 9)
 (.seq
 (.ops [
 ⟨(some 4), .move (.const (.int .i64 (-1))), none⟩])
 .ret)
 .skip)))))
 (.seq
 (.ops [
 ⟨(some 4), .move (.const (.int .i64 1)), none⟩])
 .ret)))⟩
theorem t40_ok : goodFn Try.prog 40 = true ∧ cfn Try.prog 40 = t40 := ⟨by kernel_rfl, by kernel_rfl⟩

/-- matchguard/matchguardref16.put -/
def t41 : NFn := ⟨76, [(.tmp 8)],
 (.seq
 (.ops [
 ⟨(some 5), .box (.tmp 1), none⟩,
 ⟨(some 8), .move (.const (.slice none 0 (.fix 0))), none⟩])
 (.seq
 (.ops [
 ⟨(some 9), .move (.const (.int .i64 0)), none⟩])
 (.seq
 (.block 0
 (.loop
 (.seq
 (.seq
 (.draw 0 [
 ⟨0, ⟨(some 10), .move (.tmp 9), none⟩, [], 0⟩,
 ⟨1, ⟨(some 11), .move (.tmp 0), none⟩, [], 0⟩,
 ⟨2, ⟨(some 12), .lenSl (.tmp 11), none⟩, [1], 0⟩,
 ⟨3, ⟨(some 13), .bin .lss (.tmp 10) (.tmp 12), none⟩, [0, 2, 1], 0⟩,
 ⟨4, ⟨(some 14), .move (.tmp 13), none⟩, [3, 0, 2, 1], 0⟩,
 ⟨5, ⟨(some 15), .move (.tmp 0), (some (14, true))⟩, [4, 3, 0, 2, 1], 0⟩,
 ⟨6, ⟨(some 16), .move (.tmp 9), (some (14, true))⟩, [4, 3, 0, 2, 1], 0⟩,
 ⟨7, ⟨(some 17), .idxSl (.tmp 15) (.tmp 16) 6, (some (14, true))⟩, [5, 4, 3, 0, 2, 1, 6], 0⟩,
 ⟨8, ⟨(some 18), .off (.tmp 17) 0, (some (14, true))⟩, [7, 5, 4, 3, 0, 2, 1, 6], 0⟩,
 ⟨9, ⟨(some 19), .load 4 true (.tmp 18), (some (14, true))⟩, [8, 7, 5, 4, 3, 0, 2, 1, 6], 0⟩,
 ⟨10, ⟨(some 20), .load 4 true (.tmp 5), (some (14, true))⟩, [4, 3, 0, 2, 1], 0⟩,
 ⟨11, ⟨(some 21), .call 54 [(.tmp 19), (.tmp 20)], (some (14, true))⟩, [9, 8, 7, 5, 4, 3, 0, 2, 1, 6, 10], 0⟩,
 ⟨12, ⟨(some 22), .pick (.tmp 14) (.tmp 21) (.const (.bool false)), none⟩, [4, 3, 0, 2, 1, 11, 9, 8, 7, 5, 6, 10], 0⟩])
 (.cond (.tmp 22)
 .skip
 (.exit 0)))
 (.block 1
 (.ops [
 ⟨(some 23), .move (.tmp 9), none⟩,
 ⟨(some 24), .bin .add (.tmp 23) (.const (.int .i64 1)), none⟩,
 ⟨(some 9), .move (.tmp 24), none⟩])))))
 (.seq
 (.seq
 (.draw 0 [
 ⟨0, ⟨(some 25), .move (.tmp 9), none⟩, [], 0⟩,
 ⟨1, ⟨(some 26), .move (.tmp 0), none⟩, [], 0⟩,
 ⟨2, ⟨(some 27), .lenSl (.tmp 26), none⟩, [1], 0⟩,
 ⟨3, ⟨(some 28), .bin .lss (.tmp 25) (.tmp 27), none⟩, [0, 2, 1], 0⟩,
 ⟨4, ⟨(some 29), .move (.tmp 28), none⟩, [3, 0, 2, 1], 0⟩,
 ⟨5, ⟨(some 30), .move (.tmp 0), (some (29, true))⟩, [4, 3, 0, 2, 1], 0⟩,
 ⟨6, ⟨(some 31), .move (.tmp 9), (some (29, true))⟩, [4, 3, 0, 2, 1], 0⟩,
 ⟨7, ⟨(some 32), .idxSl (.tmp 30) (.tmp 31) 6, (some (29, true))⟩, [5, 4, 3, 0, 2, 1, 6], 0⟩,
 ⟨8, ⟨(some 33), .off (.tmp 32) 0, (some (29, true))⟩, [7, 5, 4, 3, 0, 2, 1, 6], 0⟩,
 ⟨9, ⟨(some 34), .load 4 true (.tmp 33), (some (29, true))⟩, [8, 7, 5, 4, 3, 0, 2, 1, 6], 0⟩,
 ⟨10, ⟨(some 35), .load 4 true (.tmp 5), (some (29, true))⟩, [4, 3, 0, 2, 1], 0⟩,
 ⟨11, ⟨(some 36), .eq false true [.int, .int, .int, .int] (.tmp 34) (.tmp 35), (some (29, true))⟩, [9, 8, 7, 5, 4, 3, 0, 2, 1, 6, 10], 0⟩,
 ⟨12, ⟨(some 37), .pick (.tmp 29) (.tmp 36) (.const (.bool false)), none⟩, [4, 3, 0, 2, 1, 11, 9, 8, 7, 5, 6, 10], 0⟩])
 (.cond (.tmp 37)
 (.seq
 (.draw 0 [
 ⟨0, ⟨(some 38), .move (.tmp 0), none⟩, [], 0⟩,
 ⟨1, ⟨(some 39), .move (.tmp 9), none⟩, [], 0⟩,
 ⟨2, ⟨(some 40), .move (.tmp 0), none⟩, [], 0⟩,
 ⟨3, ⟨(some 41), .move (.tmp 9), none⟩, [], 0⟩,
 ⟨4, ⟨(some 42), .move (.tmp 0), none⟩, [], 0⟩,
 ⟨5, ⟨(some 43), .move (.tmp 9), none⟩, [], 0⟩,
 ⟨6, ⟨(some 44), .idxSl (.tmp 42) (.tmp 43) 6, none⟩, [4, 5], 0⟩,
 ⟨7, ⟨(some 45), .off (.tmp 44) 4, none⟩, [6, 4, 5], 0⟩,
 ⟨8, ⟨(some 46), .load 1 false (.tmp 45), none⟩, [7, 6, 4, 5], 0⟩,
 ⟨9, ⟨(some 47), .move (.tmp 2), none⟩, [], 0⟩,
 ⟨10, ⟨(some 48), .bin .add (.tmp 46) (.tmp 47), none⟩, [8, 7, 6, 4, 5, 9], 0⟩,
 ⟨11, ⟨(some 49), .move (.tmp 0), none⟩, [], 0⟩,
 ⟨12, ⟨(some 50), .move (.tmp 9), none⟩, [], 0⟩,
 ⟨13, ⟨(some 51), .idxSl (.tmp 49) (.tmp 50) 6, none⟩, [11, 12], 0⟩,
 ⟨14, ⟨(some 52), .off (.tmp 51) 5, none⟩, [13, 11, 12], 0⟩,
 ⟨15, ⟨(some 53), .load 1 false (.tmp 52), none⟩, [14, 13, 11, 12], 0⟩,
 ⟨16, ⟨(some 54), .move (.tmp 3), none⟩, [], 0⟩,
 ⟨17, ⟨(some 55), .bin .add (.tmp 53) (.tmp 54), none⟩, [15, 14, 13, 11, 12, 16], 0⟩,
 ⟨18, ⟨(some 56), .idxSl (.tmp 38) (.tmp 39) 6, none⟩, [0, 1, 4, 5, 6, 7, 8, 9, 10, 15, 14, 13, 11, 12], 0⟩,
 ⟨19, ⟨(some 57), .off (.tmp 56) 4, none⟩, [18, 0, 1, 4, 5, 6, 7, 8, 9, 10, 15, 14, 13, 11, 12], 0⟩,
 ⟨20, ⟨none, .store 1 (.tmp 57) (.tmp 48), none⟩, [19, 18, 0, 1, 4, 5, 6, 7, 8, 9, 10, 15, 14, 13, 11, 12], 0⟩,
 ⟨21, ⟨(some 58), .idxSl (.tmp 40) (.tmp 41) 6, none⟩, [2, 3, 0, 1, 4, 5, 6, 7, 8, 9, 10, 11, 12, 13, 14, 15, 16, 17, 18, 19, 20], 0⟩,
 ⟨22, ⟨(some 59), .off (.tmp 58) 5, none⟩, [21, 2, 3, 0, 1, 4, 5, 6, 7, 8, 9, 10, 11, 12, 13, 14, 15, 16, 17, 18, 19, 20], 0⟩,
 ⟨23, ⟨none, .store 1 (.tmp 59) (.tmp 55), none⟩, [22, 21, 2, 3, 0, 1, 4, 5, 6, 7, 8, 9, 10, 11, 12, 13, 14, 15, 16, 17, 18, 19, 20], 0⟩])
 (.seq
 (.ops [
 ⟨(some 60), .move (.tmp 0), none⟩,
 ⟨(some 8), .move (.tmp 60), none⟩])
 .ret))
 .skip))
 (.seq
 (.draw 2 [
 ⟨0, ⟨(some 61), .bslice 0 [] [], none⟩, [], 0⟩,
 ⟨1, ⟨(some 62), .move (.tmp 0), none⟩, [], 1⟩,
 ⟨2, ⟨(some 63), .move (.tmp 9), none⟩, [], 1⟩,
 ⟨3, ⟨(some 64), .slice (.tmp 62) none (some (.tmp 63)) none 6, none⟩, [1, 2], 1⟩,
 ⟨4, ⟨(some 65), .append 6 48 (.tmp 61) (.tmp 64), none⟩, [0, 3, 1, 2], 1⟩,
 ⟨5, ⟨(some 66), .load 4 true (.tmp 5), none⟩, [], 1⟩,
 ⟨6, ⟨(some 67), .move (.tmp 2), none⟩, [], 1⟩,
 ⟨7, ⟨(some 68), .move (.tmp 3), none⟩, [], 1⟩,
 ⟨8, ⟨(some 69), .build [(.int .i64 0), (.int .i64 0), (.int .u64 0), (.int .u64 0), (.int .i64 0), (.int .i64 0)] [(0, 4, (.tmp 66)), (4, 1, (.tmp 67)), (5, 1, (.tmp 68))], none⟩, [5, 6, 7], 1⟩,
 ⟨9, ⟨(some 70), .bslice 1 [(.int .i64 0), (.int .i64 0), (.int .u64 0), (.int .u64 0), (.int .i64 0), (.int .i64 0)] [(0, 6, (.tmp 69))], none⟩, [8, 5, 6, 7], 1⟩,
 ⟨10, ⟨(some 71), .append 6 48 (.tmp 65) (.tmp 70), none⟩, [4, 0, 3, 1, 2, 9, 8, 5, 6, 7], 2⟩,
 ⟨11, ⟨(some 72), .move (.tmp 0), none⟩, [], 2⟩,
 ⟨12, ⟨(some 73), .move (.tmp 9), none⟩, [], 2⟩,
 ⟨13, ⟨(some 74), .slice (.tmp 72) (some (.tmp 73)) none none 6, none⟩, [11, 12], 2⟩,
 ⟨14, ⟨(some 75), .append 6 48 (.tmp 71) (.tmp 74), none⟩, [10, 4, 0, 3, 1, 2, 9, 8, 5, 6, 7, 13, 11, 12], 2⟩,
 ⟨15, ⟨(some 8), .move (.tmp 75), none⟩, [14, 10, 4, 0, 3, 1, 2, 9, 8, 5, 6, 7, 13, 11, 12], 2⟩])
 .ret)))))⟩
theorem t41_ok : goodFn Try.prog 41 = true ∧ cfn Try.prog 41 = t41 := ⟨by kernel_rfl, by kernel_rfl⟩

/-- (*matchguard/matchguardcase.Codes).states -/
def t42 : NFn := ⟨63, [(.tmp 2)],
 (.seq
 (.ops [
 ⟨(some 2), .move (.const (.slice none 0 (.fix 0))), none⟩])
 (.seq
 (.ops [
 ⟨(some 7), .bslice 4 [(.int .i64 0), (.int .i64 0), (.int .i64 0), (.int .i64 0)] [(0, 1, (.const (.int .i64 0))), (1, 1, (.const (.int .i64 0))), (2, 1, (.const (.int .i64 65535))), (3, 1, (.const (.int .i64 3)))], none⟩,
 ⟨(some 3), .move (.tmp 7), none⟩])
 (.seq
 (.ops [
 ⟨(some 8), .move (.tmp 3), none⟩,
 ⟨(some 9), .move (.tmp 0), none⟩,
 ⟨(some 10), .call 20 [(.tmp 9), (.const (.int .i64 4))], none⟩,
 ⟨(some 11), .idxSl (.tmp 8) (.tmp 10) 1, none⟩,
 ⟨(some 12), .load 1 false (.tmp 11), none⟩,
 ⟨(some 13), .build [(.int .i64 0), (.int .i64 0), (.int .i64 0), (.slice none 0 (.fix 0)), (.int .i64 0)] [(0, 1, (.const (.int .i64 1))), (1, 1, (.const (.int .i64 1))), (2, 1, (.const (.int .i64 4))), (4, 1, (.tmp 12))], none⟩,
 ⟨(some 4), .alloc [(.int .i64 0), (.int .i64 0), (.int .i64 0), (.slice none 0 (.fix 0)), (.int .i64 0)], none⟩,
 ⟨none, .store 5 (.tmp 4) (.tmp 13), none⟩])
 (.seq
 (.ops [
 ⟨(some 14), .build [(.int .u64 0), (.int .u64 0)] [(1, 1, (.const (.int .u64 1)))], none⟩,
 ⟨(some 15), .build [(.int .u64 0), (.int .u64 0)] [(1, 1, (.const (.int .u64 15)))], none⟩,
 ⟨(some 16), .build [(.int .u64 0), (.int .u64 0), (.int .u64 0), (.int .u64 0), (.int .i64 0)] [(0, 2, (.tmp 14)), (2, 2, (.tmp 15)), (4, 1, (.const (.int .i64 2)))], none⟩,
 ⟨(some 17), .build [(.int .u64 0), (.int .u64 0)] [(1, 1, (.const (.int .u64 2)))], none⟩,
 ⟨(some 18), .build [(.int .u64 0), (.int .u64 0)] [(1, 1, (.const (.int .u64 3)))], none⟩,
 ⟨(some 19), .build [(.int .u64 0), (.int .u64 0), (.int .u64 0), (.int .u64 0), (.int .i64 0)] [(0, 2, (.tmp 17)), (2, 2, (.tmp 18)), (4, 1, (.const (.int .i64 3)))], none⟩,
 ⟨(some 20), .bslice 2 [(.int .u64 0), (.int .u64 0), (.int .u64 0), (.int .u64 0), (.int .i64 0), (.int .u64 0), (.int .u64 0), (.int .u64 0), (.int .u64 0), (.int .i64 0)] [(0, 5, (.tmp 16)), (5, 5, (.tmp 19))], none⟩,
 ⟨(some 21), .off (.tmp 4) 3, none⟩,
 ⟨none, .store 1 (.tmp 21) (.tmp 20), none⟩])
 (.seq
 (.seq
 (.ops [
 ⟨(some 22), .move (.tmp 0), none⟩,
 ⟨(some 23), .call 46 [(.tmp 22)], none⟩])
 (.cond (.tmp 23)
 (.draw 1 [
 ⟨0, ⟨(some 24), .off (.tmp 4) 3, none⟩, [], 0⟩,
 ⟨1, ⟨(some 25), .load 1 false (.tmp 24), none⟩, [0], 0⟩,
 ⟨2, ⟨(some 26), .move (.tmp 0), none⟩, [], 0⟩,
 ⟨3, ⟨(some 27), .call 20 [(.tmp 26), (.const (.int .i64 2))], none⟩, [2], 0⟩,
 ⟨4, ⟨(some 28), .bin .mul (.const (.int .i64 8)) (.tmp 27), none⟩, [3, 2], 0⟩,
 ⟨5, ⟨(some 29), .conv .u64 (.tmp 28), none⟩, [4, 3, 2], 0⟩,
 ⟨6, ⟨(some 30), .build [(.int .u64 0), (.int .u64 0)] [(1, 1, (.tmp 29))], none⟩, [5, 4, 3, 2], 0⟩,
 ⟨7, ⟨(some 31), .build [(.int .u64 0), (.int .u64 0)] [(1, 1, (.const (.int .u64 8)))], none⟩, [], 0⟩,
 ⟨8, ⟨(some 32), .move (.tmp 3), none⟩, [], 0⟩,
 ⟨9, ⟨(some 33), .move (.tmp 0), none⟩, [], 0⟩,
 ⟨10, ⟨(some 34), .call 20 [(.tmp 33), (.const (.int .i64 4))], none⟩, [9, 3, 2], 0⟩,
 ⟨11, ⟨(some 35), .idxSl (.tmp 32) (.tmp 34) 1, none⟩, [8, 10, 9, 3, 2], 0⟩,
 ⟨12, ⟨(some 36), .load 1 false (.tmp 35), none⟩, [11, 8, 10, 9, 3, 2], 0⟩,
 ⟨13, ⟨(some 37), .build [(.int .u64 0), (.int .u64 0), (.int .u64 0), (.int .u64 0), (.int .i64 0)] [(0, 2, (.tmp 30)), (2, 2, (.tmp 31)), (4, 1, (.tmp 36))], none⟩, [6, 5, 4, 3, 2, 7, 12, 11, 8, 10, 9], 0⟩,
 ⟨14, ⟨(some 38), .bslice 1 [(.int .u64 0), (.int .u64 0), (.int .u64 0), (.int .u64 0), (.int .i64 0)] [(0, 5, (.tmp 37))], none⟩, [13, 6, 5, 4, 3, 2, 7, 12, 11, 8, 10, 9], 0⟩,
 ⟨15, ⟨(some 39), .append 5 40 (.tmp 25) (.tmp 38), none⟩, [1, 0, 14, 13, 6, 5, 4, 3, 2, 7, 12, 11, 8, 10, 9], 1⟩,
 ⟨16, ⟨(some 40), .off (.tmp 4) 3, none⟩, [0, 1, 2, 3, 4, 5, 6, 7, 8, 9, 10, 11, 12, 13, 14, 15], 1⟩,
 ⟨17, ⟨none, .store 1 (.tmp 40) (.tmp 39), none⟩, [16, 0, 1, 2, 3, 4, 5, 6, 7, 8, 9, 10, 11, 12, 13, 14, 15], 1⟩])
 .skip))
 (.seq
 (.ops [
 ⟨(some 41), .move (.tmp 3), none⟩,
 ⟨(some 42), .move (.tmp 0), none⟩,
 ⟨(some 43), .call 20 [(.tmp 42), (.const (.int .i64 4))], none⟩,
 ⟨(some 44), .idxSl (.tmp 41) (.tmp 43) 1, none⟩,
 ⟨(some 45), .load 1 false (.tmp 44), none⟩,
 ⟨(some 46), .build [(.int .i64 0), (.int .i64 0), (.int .i64 0), (.slice none 0 (.fix 0)), (.int .i64 0)] [(0, 1, (.const (.int .i64 2))), (1, 1, (.const (.int .i64 2))), (4, 1, (.tmp 45))], none⟩,
 ⟨(some 5), .alloc [(.int .i64 0), (.int .i64 0), (.int .i64 0), (.slice none 0 (.fix 0)), (.int .i64 0)], none⟩,
 ⟨none, .store 5 (.tmp 5) (.tmp 46), none⟩])
 (.seq
 (.ops [
 ⟨(some 47), .build [(.int .i64 0), (.int .i64 0), (.int .i64 0), (.slice none 0 (.fix 0)), (.int .i64 0)] [(0, 1, (.const (.int .i64 3))), (1, 1, (.const (.int .i64 3))), (2, 1, (.const (.int .i64 9))), (4, 1, (.const (.int .i64 0)))], none⟩,
 ⟨(some 6), .alloc [(.int .i64 0), (.int .i64 0), (.int .i64 0), (.slice none 0 (.fix 0)), (.int .i64 0)], none⟩,
 ⟨none, .store 5 (.tmp 6) (.tmp 47), none⟩])
 (.seq
 (.seq
 (.ops [
 ⟨(some 48), .move (.tmp 0), none⟩,
 ⟨(some 49), .call 20 [(.tmp 48), (.const (.int .i64 3))], none⟩,
 ⟨(some 50), .bin .eql (.tmp 49) (.const (.int .i64 1)), none⟩])
 (.cond (.tmp 50)
 (.ops [
 ⟨(some 51), .build [(.int .u64 0), (.int .u64 0)] [(1, 1, (.const (.int .u64 5)))], none⟩,
 ⟨(some 52), .build [(.int .u64 0), (.int .u64 0)] [(1, 1, (.const (.int .u64 15)))], none⟩,
 ⟨(some 53), .move (.tmp 0), none⟩,
 ⟨(some 54), .call 20 [(.tmp 53), (.const (.int .i64 3))], none⟩,
 ⟨(some 55), .bin .add (.const (.int .i64 1)) (.tmp 54), none⟩,
 ⟨(some 56), .build [(.int .u64 0), (.int .u64 0), (.int .u64 0), (.int .u64 0), (.int .i64 0)] [(0, 2, (.tmp 51)), (2, 2, (.tmp 52)), (4, 1, (.tmp 55))], none⟩,
 ⟨(some 57), .bslice 1 [(.int .u64 0), (.int .u64 0), (.int .u64 0), (.int .u64 0), (.int .i64 0)] [(0, 5, (.tmp 56))], none⟩,
 ⟨(some 58), .off (.tmp 6) 3, none⟩,
 ⟨none, .store 1 (.tmp 58) (.tmp 57), none⟩])
 .skip))
 (.seq
 (.ops [
 ⟨(some 59), .load 5 true (.tmp 4), none⟩,
 ⟨(some 60), .load 5 true (.tmp 5), none⟩,
 ⟨(some 61), .load 5 true (.tmp 6), none⟩,
 ⟨(some 62), .bslice 3 [(.int .i64 0), (.int .i64 0), (.int .i64 0), (.slice none 0 (.fix 0)), (.int .i64 0), (.int .i64 0), (.int .i64 0), (.int .i64 0), (.slice none 0 (.fix 0)), (.int .i64 0), (.int .i64 0), (.int .i64 0), (.int .i64 0), (.slice none 0 (.fix 0)), (.int .i64 0)] [(0, 5, (.tmp 59)), (5, 5, (.tmp 60)), (10, 5, (.tmp 61))], none⟩,
 ⟨(some 2), .move (.tmp 62), none⟩])
 .ret)))))))))⟩
theorem t42_ok : goodFn Try.prog 42 = true ∧ cfn Try.prog 42 = t42 := ⟨by kernel_rfl, by kernel_rfl⟩

/-- (*matchguard/matchguardcase.Codes).actions -/
def t43 : NFn := ⟨58, [(.tmp 2)],
 (.seq
 (.ops [
 ⟨(some 2), .move (.const (.slice none 0 (.fix 0))), none⟩])
 (.seq
 (.ops [
 ⟨(some 5), .build [(.int .i64 0), (.int .i64 0), (.int .u64 0), (.int .u64 0)] [(0, 1, (.const (.int .i64 3)))], none⟩,
 ⟨(some 3), .alloc [(.int .i64 0), (.int .i64 0), (.int .u64 0), (.int .u64 0)], none⟩,
 ⟨none, .store 4 (.tmp 3) (.tmp 5), none⟩])
 (.seq
 (.draw 9 [
 ⟨0, ⟨(some 6), .build [(.int .i64 0), (.str ⟨#[]⟩), (.slice none 0 (.fix 0)), (.slice none 0 (.fix 0)), (.str ⟨#[]⟩)] [(0, 1, (.const (.int .i64 1))), (1, 1, (.const (.str ⟨#[110, 111, 112]⟩)))], none⟩, [], 0⟩,
 ⟨1, ⟨(some 7), .build [(.int .i64 0), (.int .i64 0), (.int .i64 0), (.int .i64 0), (.int .u64 0), (.int .u64 0)] [(0, 1, (.const (.int .i64 6)))], none⟩, [], 0⟩,
 ⟨2, ⟨(some 8), .bslice 1 [(.int .i64 0), (.int .i64 0), (.int .i64 0), (.int .i64 0), (.int .u64 0), (.int .u64 0)] [(0, 6, (.tmp 7))], none⟩, [1], 0⟩,
 ⟨3, ⟨(some 9), .build [(.int .i64 0), (.str ⟨#[]⟩), (.slice none 0 (.fix 0)), (.slice none 0 (.fix 0)), (.str ⟨#[]⟩)] [(0, 1, (.const (.int .i64 2))), (1, 1, (.const (.str ⟨#[100, 114, 111, 112]⟩))), (3, 1, (.tmp 8))], none⟩, [2, 1], 1⟩,
 ⟨4, ⟨(some 10), .build [(.str ⟨#[]⟩), (.int .i64 0)] [(0, 1, (.const (.str ⟨#[112, 111, 114, 116]⟩))), (1, 1, (.const (.int .i64 16)))], none⟩, [], 1⟩,
 ⟨5, ⟨(some 11), .bslice 1 [(.str ⟨#[]⟩), (.int .i64 0)] [(0, 2, (.tmp 10))], none⟩, [4], 1⟩,
 ⟨6, ⟨(some 12), .load 4 true (.tmp 3), none⟩, [], 2⟩,
 ⟨7, ⟨(some 13), .build [(.int .i64 0), (.int .i64 0), (.int .i64 0), (.int .i64 0), (.int .u64 0), (.int .u64 0)] [(0, 1, (.const (.int .i64 7))), (2, 4, (.tmp 12))], none⟩, [6], 2⟩,
 ⟨8, ⟨(some 14), .bslice 1 [(.int .i64 0), (.int .i64 0), (.int .i64 0), (.int .i64 0), (.int .u64 0), (.int .u64 0)] [(0, 6, (.tmp 13))], none⟩, [7, 6], 2⟩,
 ⟨9, ⟨(some 15), .build [(.int .i64 0), (.str ⟨#[]⟩), (.slice none 0 (.fix 0)), (.slice none 0 (.fix 0)), (.str ⟨#[]⟩)] [(0, 1, (.const (.int .i64 3))), (1, 1, (.const (.str ⟨#[102, 111, 114, 119, 97, 114, 100]⟩))), (2, 1, (.tmp 11)), (3, 1, (.tmp 14))], none⟩, [5, 4, 8, 7, 6], 3⟩,
 ⟨10, ⟨(some 16), .build [(.str ⟨#[]⟩), (.int .i64 0)] [(0, 1, (.const (.str ⟨#[120]⟩))), (1, 1, (.const (.int .i64 4)))], none⟩, [], 3⟩,
 ⟨11, ⟨(some 17), .bslice 1 [(.str ⟨#[]⟩), (.int .i64 0)] [(0, 2, (.tmp 16))], none⟩, [10], 3⟩,
 ⟨12, ⟨(some 18), .load 4 true (.tmp 3), none⟩, [], 4⟩,
 ⟨13, ⟨(some 19), .build [(.int .i64 0), (.int .i64 0), (.int .i64 0), (.int .i64 0), (.int .u64 0), (.int .u64 0)] [(0, 1, (.const (.int .i64 1))), (1, 1, (.const (.int .i64 5))), (2, 4, (.tmp 18))], none⟩, [12], 4⟩,
 ⟨14, ⟨(some 20), .build [(.int .i64 0), (.int .i64 0), (.int .u64 0), (.int .u64 0)] [(0, 1, (.const (.int .i64 2))), (1, 1, (.const (.int .i64 5)))], none⟩, [], 4⟩,
 ⟨15, ⟨(some 21), .build [(.int .i64 0), (.int .i64 0), (.int .i64 0), (.int .i64 0), (.int .u64 0), (.int .u64 0)] [(0, 1, (.const (.int .i64 2))), (1, 1, (.const (.int .i64 3))), (2, 4, (.tmp 20))], none⟩, [14], 4⟩,
 ⟨16, ⟨(some 22), .bslice 2 [(.int .i64 0), (.int .i64 0), (.int .i64 0), (.int .i64 0), (.int .u64 0), (.int .u64 0), (.int .i64 0), (.int .i64 0), (.int .i64 0), (.int .i64 0), (.int .u64 0), (.int .u64 0)] [(0, 6, (.tmp 19)), (6, 6, (.tmp 21))], none⟩, [13, 12, 15, 14], 4⟩,
 ⟨17, ⟨(some 23), .build [(.int .i64 0), (.str ⟨#[]⟩), (.slice none 0 (.fix 0)), (.slice none 0 (.fix 0)), (.str ⟨#[]⟩)] [(0, 1, (.const (.int .i64 4))), (1, 1, (.const (.str ⟨#[116, 97, 103]⟩))), (2, 1, (.tmp 17)), (3, 1, (.tmp 22))], none⟩, [11, 10, 16, 13, 12, 15, 14], 5⟩,
 ⟨18, ⟨(some 24), .build [(.str ⟨#[]⟩), (.int .i64 0)] [(0, 1, (.const (.str ⟨#[120]⟩))), (1, 1, (.const (.int .i64 4)))], none⟩, [], 5⟩,
 ⟨19, ⟨(some 25), .build [(.str ⟨#[]⟩), (.int .i64 0)] [(0, 1, (.const (.str ⟨#[121]⟩))), (1, 1, (.const (.int .i64 12)))], none⟩, [], 5⟩,
 ⟨20, ⟨(some 26), .bslice 2 [(.str ⟨#[]⟩), (.int .i64 0), (.str ⟨#[]⟩), (.int .i64 0)] [(0, 2, (.tmp 24)), (2, 2, (.tmp 25))], none⟩, [18, 19], 5⟩,
 ⟨21, ⟨(some 27), .build [(.int .i64 0), (.int .i64 0), (.int .i64 0), (.int .i64 0), (.int .u64 0), (.int .u64 0)] [(0, 1, (.const (.int .i64 4))), (1, 1, (.const (.int .i64 3)))], none⟩, [], 6⟩,
 ⟨22, ⟨(some 28), .load 4 true (.tmp 3), none⟩, [], 6⟩,
 ⟨23, ⟨(some 29), .build [(.int .i64 0), (.int .i64 0), (.int .i64 0), (.int .i64 0), (.int .u64 0), (.int .u64 0)] [(0, 1, (.const (.int .i64 1))), (1, 1, (.const (.int .i64 9))), (2, 4, (.tmp 28))], none⟩, [22], 6⟩,
 ⟨24, ⟨(some 30), .build [(.int .i64 0), (.int .i64 0), (.int .u64 0), (.int .u64 0)] [(0, 1, (.const (.int .i64 3))), (1, 1, (.const (.int .i64 1)))], none⟩, [], 6⟩,
 ⟨25, ⟨(some 31), .build [(.int .i64 0), (.int .i64 0), (.int .i64 0), (.int .i64 0), (.int .u64 0), (.int .u64 0)] [(0, 1, (.const (.int .i64 3))), (1, 1, (.const (.int .i64 8))), (2, 4, (.tmp 30))], none⟩, [24], 6⟩,
 ⟨26, ⟨(some 32), .bslice 3 [(.int .i64 0), (.int .i64 0), (.int .i64 0), (.int .i64 0), (.int .u64 0), (.int .u64 0), (.int .i64 0), (.int .i64 0), (.int .i64 0), (.int .i64 0), (.int .u64 0), (.int .u64 0), (.int .i64 0), (.int .i64 0), (.int .i64 0), (.int .i64 0), (.int .u64 0), (.int .u64 0)] [(0, 6, (.tmp 27)), (6, 6, (.tmp 29)), (12, 6, (.tmp 31))], none⟩, [21, 23, 22, 25, 24], 6⟩,
 ⟨27, ⟨(some 33), .build [(.int .i64 0), (.str ⟨#[]⟩), (.slice none 0 (.fix 0)), (.slice none 0 (.fix 0)), (.str ⟨#[]⟩)] [(0, 1, (.const (.int .i64 5))), (1, 1, (.const (.str ⟨#[119, 114, 97, 112]⟩))), (2, 1, (.tmp 26)), (3, 1, (.tmp 32))], none⟩, [20, 18, 19, 26, 21, 23, 22, 25, 24], 7⟩,
 ⟨28, ⟨(some 34), .move (.tmp 0), none⟩, [], 7⟩,
 ⟨29, ⟨(some 35), .call 20 [(.tmp 34), (.const (.int .i64 2))], none⟩, [28], 7⟩,
 ⟨30, ⟨(some 36), .bin .add (.const (.int .i64 2)) (.tmp 35), none⟩, [29, 28], 7⟩,
 ⟨31, ⟨(some 37), .build [(.int .i64 0), (.int .i64 0), (.int .i64 0), (.int .i64 0), (.int .u64 0), (.int .u64 0)] [(0, 1, (.const (.int .i64 5))), (1, 1, (.tmp 36))], none⟩, [30, 29, 28], 7⟩,
 ⟨32, ⟨(some 38), .move (.tmp 0), none⟩, [], 7⟩,
 ⟨33, ⟨(some 39), .call 20 [(.tmp 38), (.const (.int .i64 256))], none⟩, [32, 29, 28], 7⟩,
 ⟨34, ⟨(some 40), .conv .u64 (.tmp 39), none⟩, [33, 32, 29, 28], 7⟩,
 ⟨35, ⟨(some 41), .build [(.int .u64 0), (.int .u64 0)] [(1, 1, (.tmp 40))], none⟩, [34, 33, 32, 29, 28], 7⟩,
 ⟨36, ⟨(some 42), .build [(.int .i64 0), (.int .i64 0), (.int .u64 0), (.int .u64 0)] [(0, 1, (.const (.int .i64 1))), (2, 2, (.tmp 41))], none⟩, [35, 34, 33, 32, 29, 28], 7⟩,
 ⟨37, ⟨(some 43), .build [(.int .i64 0), (.int .i64 0), (.int .i64 0), (.int .i64 0), (.int .u64 0), (.int .u64 0)] [(0, 1, (.const (.int .i64 2))), (1, 1, (.const (.int .i64 6))), (2, 4, (.tmp 42))], none⟩, [36, 35, 34, 33, 32, 29, 28], 7⟩,
 ⟨38, ⟨(some 44), .bslice 2 [(.int .i64 0), (.int .i64 0), (.int .i64 0), (.int .i64 0), (.int .u64 0), (.int .u64 0), (.int .i64 0), (.int .i64 0), (.int .i64 0), (.int .i64 0), (.int .u64 0), (.int .u64 0)] [(0, 6, (.tmp 37)), (6, 6, (.tmp 43))], none⟩, [31, 30, 29, 28, 37, 36, 35, 34, 33, 32], 7⟩,
 ⟨39, ⟨(some 45), .build [(.int .i64 0), (.str ⟨#[]⟩), (.slice none 0 (.fix 0)), (.slice none 0 (.fix 0)), (.str ⟨#[]⟩)] [(0, 1, (.const (.int .i64 6))), (1, 1, (.const (.str ⟨#[115, 116, 114, 105, 112]⟩))), (3, 1, (.tmp 44))], none⟩, [38, 31, 30, 29, 28, 37, 36, 35, 34, 33, 32], 8⟩,
 ⟨40, ⟨(some 46), .bslice 6 [(.int .i64 0), (.str ⟨#[]⟩), (.slice none 0 (.fix 0)), (.slice none 0 (.fix 0)), (.str ⟨#[]⟩), (.int .i64 0), (.str ⟨#[]⟩), (.slice none 0 (.fix 0)), (.slice none 0 (.fix 0)), (.str ⟨#[]⟩), (.int .i64 0), (.str ⟨#[]⟩), (.slice none 0 (.fix 0)), (.slice none 0 (.fix 0)), (.str ⟨#[]⟩), (.int .i64 0), (.str ⟨#[]⟩), (.slice none 0 (.fix 0)), (.slice none 0 (.fix 0)), (.str ⟨#[]⟩), (.int .i64 0), (.str ⟨#[]⟩), (.slice none 0 (.fix 0)), (.slice none 0 (.fix 0)), (.str ⟨#[]⟩), (.int .i64 0), (.str ⟨#[]⟩), (.slice none 0 (.fix 0)), (.slice none 0 (.fix 0)), (.str ⟨#[]⟩)] [(0, 5, (.tmp 6)), (5, 5, (.tmp 9)), (10, 5, (.tmp 15)), (15, 5, (.tmp 23)), (20, 5, (.tmp 33)), (25, 5, (.tmp 45))], none⟩, [0, 3, 2, 1, 9, 5, 4, 8, 7, 6, 17, 11, 10, 16, 13, 12, 15, 14, 27, 20, 18, 19, 26, 21, 23, 22, 25, 24, 39, 38, 31, 30, 29, 28, 37, 36, 35, 34, 33, 32], 8⟩,
 ⟨41, ⟨(some 4), .move (.tmp 46), none⟩, [40, 0, 3, 2, 1, 9, 5, 4, 8, 7, 6, 17, 11, 10, 16, 13, 12, 15, 14, 27, 20, 18, 19, 26, 21, 23, 22, 25, 24, 39, 38, 31, 30, 29, 28, 37, 36, 35, 34, 33, 32], 9⟩])
 (.seq
 (.seq
 (.ops [
 ⟨(some 47), .move (.tmp 0), none⟩,
 ⟨(some 48), .call 46 [(.tmp 47)], none⟩])
 (.cond (.tmp 48)
 (.ops [
 ⟨(some 49), .move (.tmp 4), none⟩,
 ⟨(some 50), .idxSl (.tmp 49) (.const (.int .i64 2)) 5, none⟩,
 ⟨(some 51), .off (.tmp 50) 4, none⟩,
 ⟨none, .store 1 (.tmp 51) (.const (.str ⟨#[112, 111, 114, 116, 32, 33, 61, 32, 48]⟩)), none⟩])
 .skip))
 (.seq
 (.seq
 (.ops [
 ⟨(some 52), .move (.tmp 0), none⟩,
 ⟨(some 53), .call 46 [(.tmp 52)], none⟩])
 (.cond (.tmp 53)
 (.ops [
 ⟨(some 54), .move (.tmp 4), none⟩,
 ⟨(some 55), .idxSl (.tmp 54) (.const (.int .i64 4)) 5, none⟩,
 ⟨(some 56), .off (.tmp 55) 4, none⟩,
 ⟨none, .store 1 (.tmp 56) (.const (.str ⟨#[120, 32, 60, 32, 121, 32, 124, 124, 32, 120, 32, 61, 61, 32, 49, 53]⟩)), none⟩])
 .skip))
 (.seq
 (.ops [
 ⟨(some 57), .move (.tmp 4), none⟩,
 ⟨(some 2), .move (.tmp 57), none⟩])
 .ret))))))⟩
theorem t43_ok : goodFn Try.prog 43 = true ∧ cfn Try.prog 43 = t43 := ⟨by kernel_rfl, by kernel_rfl⟩

/-- (*matchguard/matchguardcase.Codes).tables -/
def t44 : NFn := ⟨98, [(.tmp 2)],
 (.seq
 (.ops [
 ⟨(some 2), .move (.const (.slice none 0 (.fix 0))), none⟩])
 (.seq
 (.ops [
 ⟨(some 10), .build [(.str ⟨#[]⟩), (.int .i64 0), (.int .i64 0)] [(0, 1, (.const (.str ⟨#[97]⟩))), (1, 1, (.const (.int .i64 4))), (2, 1, (.const (.int .i64 1)))], none⟩,
 ⟨(some 11), .bslice 1 [(.str ⟨#[]⟩), (.int .i64 0), (.int .i64 0)] [(0, 3, (.tmp 10))], none⟩,
 ⟨(some 12), .bslice 3 [(.int .i64 0), (.int .i64 0), (.int .i64 0)] [(0, 1, (.const (.int .i64 1))), (1, 1, (.const (.int .i64 2))), (2, 1, (.const (.int .i64 4)))], none⟩,
 ⟨(some 13), .move (.tmp 0), none⟩,
 ⟨(some 14), .call 20 [(.tmp 13), (.const (.int .i64 2))], none⟩,
 ⟨(some 15), .bin .add (.const (.int .i64 1)) (.tmp 14), none⟩,
 ⟨(some 16), .move (.tmp 0), none⟩,
 ⟨(some 17), .call 20 [(.tmp 16), (.const (.int .i64 5))], none⟩,
 ⟨(some 18), .bin .add (.const (.int .i64 2)) (.tmp 17), none⟩,
 ⟨(some 19), .build [(.int .i64 0), (.str ⟨#[]⟩), (.slice none 0 (.fix 0)), (.slice none 0 (.fix 0)), (.int .i64 0), (.slice none 0 (.fix 0)), (.int .i64 0), (.str ⟨#[]⟩)] [(0, 1, (.const (.int .i64 1))), (1, 1, (.const (.str ⟨#[112, 111, 114, 116, 115]⟩))), (2, 1, (.tmp 11)), (3, 1, (.tmp 12)), (4, 1, (.tmp 15)), (6, 1, (.tmp 18))], none⟩,
 ⟨(some 3), .alloc [(.int .i64 0), (.str ⟨#[]⟩), (.slice none 0 (.fix 0)), (.slice none 0 (.fix 0)), (.int .i64 0), (.slice none 0 (.fix 0)), (.int .i64 0), (.str ⟨#[]⟩)], none⟩,
 ⟨none, .store 8 (.tmp 3) (.tmp 19), none⟩])
 (.seq
 (.ops [
 ⟨(some 20), .build [(.str ⟨#[]⟩), (.int .i64 0), (.int .i64 0)] [(0, 1, (.const (.str ⟨#[100]⟩))), (1, 1, (.const (.int .i64 7))), (2, 1, (.const (.int .i64 2)))], none⟩,
 ⟨(some 21), .bslice 1 [(.str ⟨#[]⟩), (.int .i64 0), (.int .i64 0)] [(0, 3, (.tmp 20))], none⟩,
 ⟨(some 22), .bslice 4 [(.int .i64 0), (.int .i64 0), (.int .i64 0), (.int .i64 0)] [(0, 1, (.const (.int .i64 1))), (1, 1, (.const (.int .i64 2))), (2, 1, (.const (.int .i64 3))), (3, 1, (.const (.int .i64 4)))], none⟩,
 ⟨(some 23), .move (.tmp 0), none⟩,
 ⟨(some 24), .call 20 [(.tmp 23), (.const (.int .i64 6))], none⟩,
 ⟨(some 25), .bin .add (.const (.int .i64 3)) (.tmp 24), none⟩,
 ⟨(some 26), .build [(.int .i64 0), (.str ⟨#[]⟩), (.slice none 0 (.fix 0)), (.slice none 0 (.fix 0)), (.int .i64 0), (.slice none 0 (.fix 0)), (.int .i64 0), (.str ⟨#[]⟩)] [(0, 1, (.const (.int .i64 2))), (1, 1, (.const (.str ⟨#[114, 111, 117, 116, 101, 115]⟩))), (2, 1, (.tmp 21)), (3, 1, (.tmp 22)), (4, 1, (.const (.int .i64 2))), (6, 1, (.tmp 25))], none⟩,
 ⟨(some 4), .alloc [(.int .i64 0), (.str ⟨#[]⟩), (.slice none 0 (.fix 0)), (.slice none 0 (.fix 0)), (.int .i64 0), (.slice none 0 (.fix 0)), (.int .i64 0), (.str ⟨#[]⟩)], none⟩,
 ⟨none, .store 8 (.tmp 4) (.tmp 26), none⟩])
 (.seq
 (.seq
 (.ops [
 ⟨(some 27), .move (.tmp 0), none⟩,
 ⟨(some 28), .call 46 [(.tmp 27)], none⟩])
 (.cond (.tmp 28)
 (.ops [
 ⟨(some 29), .off (.tmp 4) 2, none⟩,
 ⟨(some 30), .load 1 false (.tmp 29), none⟩,
 ⟨(some 31), .build [(.str ⟨#[]⟩), (.int .i64 0), (.int .i64 0)] [(0, 1, (.const (.str ⟨#[109]⟩))), (1, 1, (.const (.int .i64 3))), (2, 1, (.const (.int .i64 1)))], none⟩,
 ⟨(some 32), .bslice 1 [(.str ⟨#[]⟩), (.int .i64 0), (.int .i64 0)] [(0, 3, (.tmp 31))], none⟩,
 ⟨(some 33), .append 3 32 (.tmp 30) (.tmp 32), none⟩,
 ⟨(some 34), .off (.tmp 4) 2, none⟩,
 ⟨none, .store 1 (.tmp 34) (.tmp 33), none⟩])
 .skip))
 (.seq
 (.ops [
 ⟨(some 35), .build [(.str ⟨#[]⟩), (.int .i64 0), (.int .i64 0)] [(0, 1, (.const (.str ⟨#[101]⟩))), (1, 1, (.const (.int .i64 6))), (2, 1, (.const (.int .i64 3)))], none⟩,
 ⟨(some 36), .build [(.str ⟨#[]⟩), (.int .i64 0), (.int .i64 0)] [(0, 1, (.const (.str ⟨#[97]⟩))), (1, 1, (.const (.int .i64 4))), (2, 1, (.const (.int .i64 3)))], none⟩,
 ⟨(some 37), .bslice 2 [(.str ⟨#[]⟩), (.int .i64 0), (.int .i64 0), (.str ⟨#[]⟩), (.int .i64 0), (.int .i64 0)] [(0, 3, (.tmp 35)), (3, 3, (.tmp 36))], none⟩,
 ⟨(some 38), .bslice 5 [(.int .i64 0), (.int .i64 0), (.int .i64 0), (.int .i64 0), (.int .i64 0)] [(0, 1, (.const (.int .i64 1))), (1, 1, (.const (.int .i64 2))), (2, 1, (.const (.int .i64 3))), (3, 1, (.const (.int .i64 5))), (4, 1, (.const (.int .i64 6)))], none⟩,
 ⟨(some 39), .move (.tmp 0), none⟩,
 ⟨(some 40), .call 20 [(.tmp 39), (.const (.int .i64 6))], none⟩,
 ⟨(some 41), .bin .add (.const (.int .i64 4)) (.tmp 40), none⟩,
 ⟨(some 42), .build [(.int .i64 0), (.str ⟨#[]⟩), (.slice none 0 (.fix 0)), (.slice none 0 (.fix 0)), (.int .i64 0), (.slice none 0 (.fix 0)), (.int .i64 0), (.str ⟨#[]⟩)] [(0, 1, (.const (.int .i64 3))), (1, 1, (.const (.str ⟨#[97, 99, 108]⟩))), (2, 1, (.tmp 37)), (3, 1, (.tmp 38)), (4, 1, (.const (.int .i64 1))), (6, 1, (.tmp 41))], none⟩,
 ⟨(some 5), .alloc [(.int .i64 0), (.str ⟨#[]⟩), (.slice none 0 (.fix 0)), (.slice none 0 (.fix 0)), (.int .i64 0), (.slice none 0 (.fix 0)), (.int .i64 0), (.str ⟨#[]⟩)], none⟩,
 ⟨none, .store 8 (.tmp 5) (.tmp 42), none⟩])
 (.seq
 (.seq
 (.ops [
 ⟨(some 43), .move (.tmp 0), none⟩,
 ⟨(some 44), .call 46 [(.tmp 43)], none⟩])
 (.cond (.tmp 44)
 (.ops [
 ⟨(some 45), .off (.tmp 5) 2, none⟩,
 ⟨(some 46), .load 1 false (.tmp 45), none⟩,
 ⟨(some 47), .build [(.str ⟨#[]⟩), (.int .i64 0), (.int .i64 0)] [(0, 1, (.const (.str ⟨#[98]⟩))), (1, 1, (.const (.int .i64 5))), (2, 1, (.const (.int .i64 1)))], none⟩,
 ⟨(some 48), .bslice 1 [(.str ⟨#[]⟩), (.int .i64 0), (.int .i64 0)] [(0, 3, (.tmp 47))], none⟩,
 ⟨(some 49), .append 3 32 (.tmp 46) (.tmp 48), none⟩,
 ⟨(some 50), .off (.tmp 5) 2, none⟩,
 ⟨none, .store 1 (.tmp 50) (.tmp 49), none⟩])
 .skip))
 (.seq
 (.ops [
 ⟨(some 51), .build [(.str ⟨#[]⟩), (.int .i64 0), (.int .i64 0)] [(0, 1, (.const (.str ⟨#[102]⟩))), (1, 1, (.const (.int .i64 8))), (2, 1, (.const (.int .i64 4)))], none⟩,
 ⟨(some 52), .bslice 1 [(.str ⟨#[]⟩), (.int .i64 0), (.int .i64 0)] [(0, 3, (.tmp 51))], none⟩,
 ⟨(some 53), .bslice 3 [(.int .i64 0), (.int .i64 0), (.int .i64 0)] [(0, 1, (.const (.int .i64 1))), (1, 1, (.const (.int .i64 3))), (2, 1, (.const (.int .i64 5)))], none⟩,
 ⟨(some 54), .build [(.int .u64 0), (.int .u64 0)] [(1, 1, (.const (.int .u64 7)))], none⟩,
 ⟨(some 55), .bslice 1 [(.int .u64 0), (.int .u64 0)] [(0, 2, (.tmp 54))], none⟩,
 ⟨(some 56), .move (.tmp 0), none⟩,
 ⟨(some 57), .call 20 [(.tmp 56), (.const (.int .i64 5))], none⟩,
 ⟨(some 58), .bin .add (.const (.int .i64 3)) (.tmp 57), none⟩,
 ⟨(some 59), .build [(.int .i64 0), (.str ⟨#[]⟩), (.slice none 0 (.fix 0)), (.slice none 0 (.fix 0)), (.int .i64 0), (.slice none 0 (.fix 0)), (.int .i64 0), (.str ⟨#[]⟩)] [(0, 1, (.const (.int .i64 4))), (1, 1, (.const (.str ⟨#[115, 112, 97, 110, 115]⟩))), (2, 1, (.tmp 52)), (3, 1, (.tmp 53)), (4, 1, (.const (.int .i64 3))), (5, 1, (.tmp 55)), (6, 1, (.tmp 58))], none⟩,
 ⟨(some 6), .alloc [(.int .i64 0), (.str ⟨#[]⟩), (.slice none 0 (.fix 0)), (.slice none 0 (.fix 0)), (.int .i64 0), (.slice none 0 (.fix 0)), (.int .i64 0), (.str ⟨#[]⟩)], none⟩,
 ⟨none, .store 8 (.tmp 6) (.tmp 59), none⟩])
 (.seq
 (.seq
 (.ops [
 ⟨(some 60), .move (.tmp 0), none⟩,
 ⟨(some 61), .call 46 [(.tmp 60)], none⟩])
 (.cond (.tmp 61)
 (.ops [
 ⟨(some 62), .off (.tmp 6) 2, none⟩,
 ⟨(some 63), .load 1 false (.tmp 62), none⟩,
 ⟨(some 64), .build [(.str ⟨#[]⟩), (.int .i64 0), (.int .i64 0)] [(0, 1, (.const (.str ⟨#[103]⟩))), (1, 1, (.const (.int .i64 9))), (2, 1, (.const (.int .i64 1)))], none⟩,
 ⟨(some 65), .build [(.str ⟨#[]⟩), (.int .i64 0), (.int .i64 0)] [(0, 1, (.const (.str ⟨#[100]⟩))), (1, 1, (.const (.int .i64 7))), (2, 1, (.const (.int .i64 2)))], none⟩,
 ⟨(some 66), .bslice 2 [(.str ⟨#[]⟩), (.int .i64 0), (.int .i64 0), (.str ⟨#[]⟩), (.int .i64 0), (.int .i64 0)] [(0, 3, (.tmp 64)), (3, 3, (.tmp 65))], none⟩,
 ⟨(some 67), .append 3 32 (.tmp 63) (.tmp 66), none⟩,
 ⟨(some 68), .off (.tmp 6) 2, none⟩,
 ⟨none, .store 1 (.tmp 68) (.tmp 67), none⟩])
 .skip))
 (.seq
 (.ops [
 ⟨(some 69), .load 8 true (.tmp 3), none⟩,
 ⟨(some 70), .load 8 true (.tmp 4), none⟩,
 ⟨(some 71), .load 8 true (.tmp 5), none⟩,
 ⟨(some 72), .load 8 true (.tmp 6), none⟩,
 ⟨(some 73), .bslice 4 [(.int .i64 0), (.str ⟨#[]⟩), (.slice none 0 (.fix 0)), (.slice none 0 (.fix 0)), (.int .i64 0), (.slice none 0 (.fix 0)), (.int .i64 0), (.str ⟨#[]⟩), (.int .i64 0), (.str ⟨#[]⟩), (.slice none 0 (.fix 0)), (.slice none 0 (.fix 0)), (.int .i64 0), (.slice none 0 (.fix 0)), (.int .i64 0), (.str ⟨#[]⟩), (.int .i64 0), (.str ⟨#[]⟩), (.slice none 0 (.fix 0)), (.slice none 0 (.fix 0)), (.int .i64 0), (.slice none 0 (.fix 0)), (.int .i64 0), (.str ⟨#[]⟩), (.int .i64 0), (.str ⟨#[]⟩), (.slice none 0 (.fix 0)), (.slice none 0 (.fix 0)), (.int .i64 0), (.slice none 0 (.fix 0)), (.int .i64 0), (.str ⟨#[]⟩)] [(0, 8, (.tmp 69)), (8, 8, (.tmp 70)), (16, 8, (.tmp 71)), (24, 8, (.tmp 72))], none⟩,
 ⟨(some 7), .move (.tmp 73), none⟩])
 (.seq
 (.ops [
 ⟨(some 74), .bslice 3 [(.str ⟨#[]⟩), (.str ⟨#[]⟩), (.str ⟨#[]⟩)] [(0, 1, (.const (.str ⟨#[]⟩))), (1, 1, (.const (.str ⟨#[97, 32, 33, 61, 32, 48]⟩))), (2, 1, (.const (.str ⟨#[97, 32, 60, 32, 49, 52, 32, 38, 38, 32, 97, 32, 33, 61, 32, 51]⟩)))], none⟩,
 ⟨(some 75), .bslice 3 [(.str ⟨#[]⟩), (.str ⟨#[]⟩), (.str ⟨#[]⟩)] [(0, 1, (.const (.str ⟨#[]⟩))), (1, 1, (.const (.str ⟨#[100, 58, 58, 112, 114, 101, 102, 105, 120, 95, 108, 101, 110, 103, 116, 104, 32, 62, 61, 32, 56]⟩))), (2, 1, (.const (.str ⟨#[100, 58, 58, 112, 114, 101, 102, 105, 120, 95, 108, 101, 110, 103, 116, 104, 32, 61, 61, 32, 51, 50, 32, 45, 62, 32, 100, 58, 58, 118, 97, 108, 117, 101, 32, 62, 32, 48, 120, 102, 102]⟩)))], none⟩,
 ⟨(some 76), .bslice 3 [(.str ⟨#[]⟩), (.str ⟨#[]⟩), (.str ⟨#[]⟩)] [(0, 1, (.const (.str ⟨#[]⟩))), (1, 1, (.const (.str ⟨#[112, 114, 105, 111, 114, 105, 116, 121, 32, 60, 32, 49, 48, 48, 32, 38, 38, 32, 40, 101, 58, 58, 109, 97, 115, 107, 32, 33, 61, 32, 48, 32, 124, 124, 32, 97, 58, 58, 109, 97, 115, 107, 32, 33, 61, 32, 48, 41]⟩))), (2, 1, (.const (.str ⟨#[101, 58, 58, 109, 97, 115, 107, 32, 61, 61, 32, 48, 32, 45, 62, 32, 112, 114, 105, 111, 114, 105, 116, 121, 32, 62, 32, 53]⟩)))], none⟩,
 ⟨(some 77), .bslice 3 [(.str ⟨#[]⟩), (.str ⟨#[]⟩), (.str ⟨#[]⟩)] [(0, 1, (.const (.str ⟨#[]⟩))), (1, 1, (.const (.str ⟨#[102, 58, 58, 104, 105, 103, 104, 32, 45, 32, 102, 58, 58, 108, 111, 119, 32, 60, 61, 32, 48, 120, 49, 48, 48]⟩))), (2, 1, (.const (.str ⟨#[33, 40, 102, 58, 58, 108, 111, 119, 32, 61, 61, 32, 48, 32, 38, 38, 32, 102, 58, 58, 104, 105, 103, 104, 32, 62, 32, 49, 48, 48, 48, 41]⟩)))], none⟩,
 ⟨(some 78), .bslice 4 [(.slice none 0 (.fix 0)), (.slice none 0 (.fix 0)), (.slice none 0 (.fix 0)), (.slice none 0 (.fix 0))] [(0, 1, (.tmp 74)), (1, 1, (.tmp 75)), (2, 1, (.tmp 76)), (3, 1, (.tmp 77))], none⟩,
 ⟨(some 8), .move (.tmp 78), none⟩])
 (.seq
 (.seq
 (.ops [
 ⟨(some 79), .move (.tmp 7), none⟩,
 ⟨(some 80), .lenSl (.tmp 79), none⟩,
 ⟨(some 81), .move (.const (.int .i64 0)), none⟩])
 (.block 0
 (.loop
 (.seq
 (.ops [
 ⟨(some 82), .bin .lss (.tmp 81) (.tmp 80), none⟩])
 (.seq
 (.cond (.tmp 82)
 .skip
 (.exit 0))
 (.seq
 (.block 1
 (.seq
 (.ops [
 ⟨(some 83), .move (.tmp 81), none⟩,
 ⟨(some 9), .move (.tmp 83), none⟩])
 (.draw 0 [
 ⟨0, ⟨(some 84), .move (.tmp 7), none⟩, [], 0⟩,
 ⟨1, ⟨(some 85), .move (.tmp 9), none⟩, [], 0⟩,
 ⟨2, ⟨(some 86), .move (.tmp 8), none⟩, [], 0⟩,
 ⟨3, ⟨(some 87), .move (.tmp 9), none⟩, [], 0⟩,
 ⟨4, ⟨(some 88), .idxSl (.tmp 86) (.tmp 87) 1, none⟩, [2, 3], 0⟩,
 ⟨5, ⟨(some 89), .load 1 false (.tmp 88), none⟩, [4, 2, 3], 0⟩,
 ⟨6, ⟨(some 90), .move (.tmp 0), none⟩, [], 0⟩,
 ⟨7, ⟨(some 91), .call 20 [(.tmp 90), (.const (.int .i64 3))], none⟩, [6], 0⟩,
 ⟨8, ⟨(some 92), .idxSl (.tmp 89) (.tmp 91) 1, none⟩, [5, 4, 2, 3, 7, 6], 0⟩,
 ⟨9, ⟨(some 93), .load 1 false (.tmp 92), none⟩, [8, 5, 4, 2, 3, 7, 6], 0⟩,
 ⟨10, ⟨(some 94), .idxSl (.tmp 84) (.tmp 85) 8, none⟩, [0, 1, 2, 3, 4, 5, 6, 7, 8, 9], 0⟩,
 ⟨11, ⟨(some 95), .off (.tmp 94) 7, none⟩, [10, 0, 1, 2, 3, 4, 5, 6, 7, 8, 9], 0⟩,
 ⟨12, ⟨none, .store 1 (.tmp 95) (.tmp 93), none⟩, [11, 10, 0, 1, 2, 3, 4, 5, 6, 7, 8, 9], 0⟩])))
 (.ops [
 ⟨(some 96), .bin .add (.tmp 81) (.const (.int .i64 1)), none⟩,
 ⟨(some 81), .move (.tmp 96), none⟩])))))))
 (.seq
 (.ops [
 ⟨(some 97), .move (.tmp 7), none⟩,
 ⟨(some 2), .move (.tmp 97), none⟩])
 .ret))))))))))))⟩
theorem t44_ok : goodFn Try.prog 44 = true ∧ cfn Try.prog 44 = t44 := ⟨by kernel_rfl, by kernel_rfl⟩

/-- (*matchguard/matchguardcase.Codes).roles -/
def t45 : NFn := ⟨105, [(.tmp 4)],
 (.seq
 (.ops [
 ⟨(some 4), .move (.const (.slice none 0 (.fix 0))), none⟩])
 (.seq
 (.ops [
 ⟨(some 13), .bslice 6 [(.int .i64 0), (.int .i64 0), (.int .i64 0), (.int .i64 0), (.int .i64 0), (.int .i64 0)] [(0, 1, (.const (.int .i64 1))), (1, 1, (.const (.int .i64 2))), (2, 1, (.const (.int .i64 3))), (3, 1, (.const (.int .i64 4))), (4, 1, (.const (.int .i64 5))), (5, 1, (.const (.int .i64 6)))], none⟩,
 ⟨(some 14), .build [(.int .i64 0), (.str ⟨#[]⟩), (.slice none 0 (.fix 0)), (.slice none 0 (.fix 0)), (.int .i64 0), (.bool false)] [(0, 1, (.const (.int .i64 1))), (1, 1, (.const (.str ⟨#[97, 108, 108]⟩))), (3, 1, (.tmp 13)), (4, 1, (.const (.int .i64 40))), (5, 1, (.const (.bool true)))], none⟩,
 ⟨(some 5), .alloc [(.int .i64 0), (.str ⟨#[]⟩), (.slice none 0 (.fix 0)), (.slice none 0 (.fix 0)), (.int .i64 0), (.bool false)], none⟩,
 ⟨none, .store 6 (.tmp 5) (.tmp 14), none⟩])
 (.seq
 (.ops [
 ⟨(some 15), .move (.tmp 0), none⟩,
 ⟨(some 16), .call 20 [(.tmp 15), (.const (.int .i64 3))], none⟩,
 ⟨(some 17), .bin .add (.const (.int .i64 3)) (.tmp 16), none⟩,
 ⟨(some 18), .bslice 3 [(.int .i64 0), (.int .i64 0), (.int .i64 0)] [(0, 1, (.const (.int .i64 1))), (1, 1, (.const (.int .i64 2))), (2, 1, (.tmp 17))], none⟩,
 ⟨(some 19), .move (.tmp 0), none⟩,
 ⟨(some 20), .call 20 [(.tmp 19), (.const (.int .i64 6))], none⟩,
 ⟨(some 21), .bin .add (.const (.int .i64 1)) (.tmp 20), none⟩,
 ⟨(some 22), .build [(.int .i64 0), (.str ⟨#[]⟩), (.slice none 0 (.fix 0)), (.slice none 0 (.fix 0)), (.int .i64 0), (.bool false)] [(0, 1, (.const (.int .i64 2))), (1, 1, (.const (.str ⟨#[115, 111, 109, 101]⟩))), (3, 1, (.tmp 18)), (4, 1, (.tmp 21))], none⟩,
 ⟨(some 6), .alloc [(.int .i64 0), (.str ⟨#[]⟩), (.slice none 0 (.fix 0)), (.slice none 0 (.fix 0)), (.int .i64 0), (.bool false)], none⟩,
 ⟨none, .store 6 (.tmp 6) (.tmp 22), none⟩])
 (.seq
 (.ops [
 ⟨(some 23), .move (.tmp 0), none⟩,
 ⟨(some 24), .call 20 [(.tmp 23), (.const (.int .i64 6))], none⟩,
 ⟨(some 25), .bin .add (.const (.int .i64 1)) (.tmp 24), none⟩,
 ⟨(some 26), .bslice 1 [(.int .i64 0)] [(0, 1, (.tmp 25))], none⟩,
 ⟨(some 27), .move (.tmp 0), none⟩,
 ⟨(some 28), .call 20 [(.tmp 27), (.const (.int .i64 4))], none⟩,
 ⟨(some 29), .build [(.int .i64 0), (.str ⟨#[]⟩), (.slice none 0 (.fix 0)), (.slice none 0 (.fix 0)), (.int .i64 0), (.bool false)] [(0, 1, (.const (.int .i64 7))), (1, 1, (.const (.str ⟨#[102, 101, 119]⟩))), (3, 1, (.tmp 26)), (4, 1, (.tmp 28))], none⟩,
 ⟨(some 7), .alloc [(.int .i64 0), (.str ⟨#[]⟩), (.slice none 0 (.fix 0)), (.slice none 0 (.fix 0)), (.int .i64 0), (.bool false)], none⟩,
 ⟨none, .store 6 (.tmp 7) (.tmp 29), none⟩])
 (.seq
 (.seq
 (.ops [
 ⟨(some 30), .move (.tmp 1), none⟩,
 ⟨(some 31), .lenSl (.tmp 30), none⟩,
 ⟨(some 32), .move (.const (.int .i64 0)), none⟩])
 (.block 0
 (.loop
 (.seq
 (.ops [
 ⟨(some 33), .bin .lss (.tmp 32) (.tmp 31), none⟩])
 (.seq
 (.cond (.tmp 33)
 .skip
 (.exit 0))
 (.seq
 (.block 1
 (.seq
 (.ops [
 ⟨(some 34), .idxSl (.tmp 30) (.tmp 32) 8, none⟩,
 ⟨(some 35), .load 8 true (.tmp 34), none⟩,
 ⟨(some 9), .alloc [(.int .i64 0), (.str ⟨#[]⟩), (.slice none 0 (.fix 0)), (.slice none 0 (.fix 0)), (.int .i64 0), (.slice none 0 (.fix 0)), (.int .i64 0), (.str ⟨#[]⟩)], none⟩,
 ⟨none, .store 8 (.tmp 9) (.tmp 35), none⟩])
 (.seq
 (.ops [
 ⟨(some 36), .off (.tmp 9) 2, none⟩,
 ⟨(some 37), .load 1 false (.tmp 36), none⟩,
 ⟨(some 38), .lenSl (.tmp 37), none⟩,
 ⟨(some 39), .mkslice 1 1 [(.bool false)] (.tmp 38) (.tmp 38), none⟩,
 ⟨(some 10), .move (.tmp 39), none⟩])
 (.seq
 (.ops [
 ⟨(some 40), .off (.tmp 9) 2, none⟩,
 ⟨(some 41), .load 1 false (.tmp 40), none⟩,
 ⟨(some 42), .lenSl (.tmp 41), none⟩,
 ⟨(some 43), .mkslice 1 1 [(.bool false)] (.tmp 42) (.tmp 42), none⟩,
 ⟨(some 11), .move (.tmp 43), none⟩])
 (.seq
 (.seq
 (.ops [
 ⟨(some 44), .move (.tmp 10), none⟩,
 ⟨(some 45), .lenSl (.tmp 44), none⟩,
 ⟨(some 46), .move (.const (.int .i64 0)), none⟩])
 (.block 2
 (.loop
 (.seq
 (.ops [
 ⟨(some 47), .bin .lss (.tmp 46) (.tmp 45), none⟩])
 (.seq
 (.cond (.tmp 47)
 .skip
 (.exit 2))
 (.seq
 (.block 3
 (.seq
 (.ops [
 ⟨(some 48), .move (.tmp 46), none⟩,
 ⟨(some 12), .move (.tmp 48), none⟩])
 (.ops [
 ⟨(some 49), .move (.tmp 10), none⟩,
 ⟨(some 50), .move (.tmp 12), none⟩,
 ⟨(some 51), .move (.tmp 11), none⟩,
 ⟨(some 52), .move (.tmp 12), none⟩,
 ⟨(some 53), .move (.tmp 0), none⟩,
 ⟨(some 54), .call 20 [(.tmp 53), (.const (.int .i64 4))], none⟩,
 ⟨(some 55), .bin .gtr (.tmp 54) (.const (.int .i64 0)), none⟩,
 ⟨(some 56), .idxSl (.tmp 49) (.tmp 50) 1, none⟩,
 ⟨none, .store 1 (.tmp 56) (.const (.bool true)), none⟩,
 ⟨(some 57), .idxSl (.tmp 51) (.tmp 52) 1, none⟩,
 ⟨none, .store 1 (.tmp 57) (.tmp 55), none⟩])))
 (.ops [
 ⟨(some 58), .bin .add (.tmp 46) (.const (.int .i64 1)), none⟩,
 ⟨(some 46), .move (.tmp 58), none⟩])))))))
 (.seq
 (.ops [
 ⟨(some 59), .off (.tmp 5) 2, none⟩,
 ⟨(some 60), .load 1 false (.tmp 59), none⟩,
 ⟨(some 61), .off (.tmp 9) 0, none⟩,
 ⟨(some 62), .load 1 false (.tmp 61), none⟩,
 ⟨(some 63), .move (.tmp 10), none⟩,
 ⟨(some 64), .build [(.int .i64 0), (.bool false), (.bool false), (.slice none 0 (.fix 0))] [(0, 1, (.tmp 62)), (1, 1, (.const (.bool true))), (2, 1, (.const (.bool true))), (3, 1, (.tmp 63))], none⟩,
 ⟨(some 65), .bslice 1 [(.int .i64 0), (.bool false), (.bool false), (.slice none 0 (.fix 0))] [(0, 4, (.tmp 64))], none⟩,
 ⟨(some 66), .append 4 40 (.tmp 60) (.tmp 65), none⟩,
 ⟨(some 67), .off (.tmp 5) 2, none⟩,
 ⟨none, .store 1 (.tmp 67) (.tmp 66), none⟩])
 (.seq
 (.seq
 (.ops [
 ⟨(some 68), .move (.tmp 0), none⟩,
 ⟨(some 69), .call 20 [(.tmp 68), (.const (.int .i64 4))], none⟩,
 ⟨(some 70), .bin .gtr (.tmp 69) (.const (.int .i64 0)), none⟩])
 (.cond (.tmp 70)
 (.draw 1 [
 ⟨0, ⟨(some 71), .off (.tmp 6) 2, none⟩, [], 0⟩,
 ⟨1, ⟨(some 72), .load 1 false (.tmp 71), none⟩, [0], 0⟩,
 ⟨2, ⟨(some 73), .off (.tmp 9) 0, none⟩, [], 0⟩,
 ⟨3, ⟨(some 74), .load 1 false (.tmp 73), none⟩, [2], 0⟩,
 ⟨4, ⟨(some 75), .move (.tmp 0), none⟩, [], 0⟩,
 ⟨5, ⟨(some 76), .call 20 [(.tmp 75), (.const (.int .i64 4))], none⟩, [4], 0⟩,
 ⟨6, ⟨(some 77), .bin .gtr (.tmp 76) (.const (.int .i64 0)), none⟩, [5, 4], 0⟩,
 ⟨7, ⟨(some 78), .move (.tmp 0), none⟩, [], 0⟩,
 ⟨8, ⟨(some 79), .call 46 [(.tmp 78)], none⟩, [7, 5, 4], 0⟩,
 ⟨9, ⟨(some 80), .move (.tmp 11), none⟩, [], 0⟩,
 ⟨10, ⟨(some 81), .build [(.int .i64 0), (.bool false), (.bool false), (.slice none 0 (.fix 0))] [(0, 1, (.tmp 74)), (1, 1, (.tmp 77)), (2, 1, (.tmp 79)), (3, 1, (.tmp 80))], none⟩, [3, 2, 6, 5, 4, 8, 7, 9], 0⟩,
 ⟨11, ⟨(some 82), .bslice 1 [(.int .i64 0), (.bool false), (.bool false), (.slice none 0 (.fix 0))] [(0, 4, (.tmp 81))], none⟩, [10, 3, 2, 6, 5, 4, 8, 7, 9], 0⟩,
 ⟨12, ⟨(some 83), .append 4 40 (.tmp 72) (.tmp 82), none⟩, [1, 0, 11, 10, 3, 2, 6, 5, 4, 8, 7, 9], 1⟩,
 ⟨13, ⟨(some 84), .off (.tmp 6) 2, none⟩, [0, 1, 2, 3, 4, 5, 6, 7, 8, 9, 10, 11, 12], 1⟩,
 ⟨14, ⟨none, .store 1 (.tmp 84) (.tmp 83), none⟩, [13, 0, 1, 2, 3, 4, 5, 6, 7, 8, 9, 10, 11, 12], 1⟩])
 .skip))
 (.seq
 (.ops [
 ⟨(some 85), .move (.tmp 0), none⟩,
 ⟨(some 86), .call 46 [(.tmp 85)], none⟩])
 (.cond (.tmp 86)
 (.draw 1 [
 ⟨0, ⟨(some 87), .off (.tmp 7) 2, none⟩, [], 0⟩,
 ⟨1, ⟨(some 88), .load 1 false (.tmp 87), none⟩, [0], 0⟩,
 ⟨2, ⟨(some 89), .off (.tmp 9) 0, none⟩, [], 0⟩,
 ⟨3, ⟨(some 90), .load 1 false (.tmp 89), none⟩, [2], 0⟩,
 ⟨4, ⟨(some 91), .move (.tmp 0), none⟩, [], 0⟩,
 ⟨5, ⟨(some 92), .call 46 [(.tmp 91)], none⟩, [4], 0⟩,
 ⟨6, ⟨(some 93), .move (.tmp 0), none⟩, [], 0⟩,
 ⟨7, ⟨(some 94), .call 46 [(.tmp 93)], none⟩, [6, 5, 4], 0⟩,
 ⟨8, ⟨(some 95), .move (.tmp 10), none⟩, [], 0⟩,
 ⟨9, ⟨(some 96), .build [(.int .i64 0), (.bool false), (.bool false), (.slice none 0 (.fix 0))] [(0, 1, (.tmp 90)), (1, 1, (.tmp 92)), (2, 1, (.tmp 94)), (3, 1, (.tmp 95))], none⟩, [3, 2, 5, 4, 7, 6, 8], 0⟩,
 ⟨10, ⟨(some 97), .bslice 1 [(.int .i64 0), (.bool false), (.bool false), (.slice none 0 (.fix 0))] [(0, 4, (.tmp 96))], none⟩, [9, 3, 2, 5, 4, 7, 6, 8], 0⟩,
 ⟨11, ⟨(some 98), .append 4 40 (.tmp 88) (.tmp 97), none⟩, [1, 0, 10, 9, 3, 2, 5, 4, 7, 6, 8], 1⟩,
 ⟨12, ⟨(some 99), .off (.tmp 7) 2, none⟩, [0, 1, 2, 3, 4, 5, 6, 7, 8, 9, 10, 11], 1⟩,
 ⟨13, ⟨none, .store 1 (.tmp 99) (.tmp 98), none⟩, [12, 0, 1, 2, 3, 4, 5, 6, 7, 8, 9, 10, 11], 1⟩])
 .skip)))))))))
 (.ops [
 ⟨(some 100), .bin .add (.tmp 32) (.const (.int .i64 1)), none⟩,
 ⟨(some 32), .move (.tmp 100), none⟩])))))))
 (.seq
 (.ops [
 ⟨(some 101), .load 6 true (.tmp 5), none⟩,
 ⟨(some 102), .load 6 true (.tmp 6), none⟩,
 ⟨(some 103), .load 6 true (.tmp 7), none⟩,
 ⟨(some 104), .bslice 3 [(.int .i64 0), (.str ⟨#[]⟩), (.slice none 0 (.fix 0)), (.slice none 0 (.fix 0)), (.int .i64 0), (.bool false), (.int .i64 0), (.str ⟨#[]⟩), (.slice none 0 (.fix 0)), (.slice none 0 (.fix 0)), (.int .i64 0), (.bool false), (.int .i64 0), (.str ⟨#[]⟩), (.slice none 0 (.fix 0)), (.slice none 0 (.fix 0)), (.int .i64 0), (.bool false)] [(0, 6, (.tmp 101)), (6, 6, (.tmp 102)), (12, 6, (.tmp 103))], none⟩,
 ⟨(some 4), .move (.tmp 104), none⟩])
 .ret))))))⟩
theorem t45_ok : goodFn Try.prog 45 = true ∧ cfn Try.prog 45 = t45 := ⟨by kernel_rfl, by kernel_rfl⟩

/-- (*matchguard/matchguardcase.Codes).Bool -/
def t46 : NFn := ⟨6, [(.tmp 2)],
 (.seq
 (.ops [
 ⟨(some 2), .move (.const (.bool false)), none⟩])
 (.seq
 (.ops [
 ⟨(some 3), .move (.tmp 0), none⟩,
 ⟨(some 4), .call 20 [(.tmp 3), (.const (.int .i64 2))], none⟩,
 ⟨(some 5), .bin .eql (.tmp 4) (.const (.int .i64 1)), none⟩,
 ⟨(some 2), .move (.tmp 5), none⟩])
 .ret))⟩
theorem t46_ok : goodFn Try.prog 46 = true ∧ cfn Try.prog 46 = t46 := ⟨by kernel_rfl, by kernel_rfl⟩

/-- slices.Index[[]matchguard/refs.Target,matchguard/refs.Target] -/
def t47 : NFn := ⟨19, [(.tmp 4)],
 (.seq
 (.ops [
 ⟨(some 3), .box (.tmp 1), none⟩,
 ⟨(some 4), .move (.const (.int .i64 0)), none⟩])
 (.seq
 (.seq
 (.ops [
 ⟨(some 6), .move (.tmp 0), none⟩,
 ⟨(some 7), .lenSl (.tmp 6), none⟩,
 ⟨(some 8), .move (.const (.int .i64 0)), none⟩])
 (.block 0
 (.loop
 (.seq
 (.ops [
 ⟨(some 9), .bin .lss (.tmp 8) (.tmp 7), none⟩])
 (.seq
 (.cond (.tmp 9)
 .skip
 (.exit 0))
 (.seq
 (.block 1
 (.seq
 (.ops [
 ⟨(some 10), .move (.tmp 8), none⟩,
 ⟨(some 5), .move (.tmp 10), none⟩])
 (.seq
 (.draw 0 [
 ⟨0, ⟨(some 11), .load 4 true (.tmp 3), none⟩, [], 0⟩,
 ⟨1, ⟨(some 12), .move (.tmp 0), none⟩, [], 0⟩,
 ⟨2, ⟨(some 13), .move (.tmp 5), none⟩, [], 0⟩,
 ⟨3, ⟨(some 14), .idxSl (.tmp 12) (.tmp 13) 4, none⟩, [1, 2], 0⟩,
 ⟨4, ⟨(some 15), .load 4 true (.tmp 14), none⟩, [3, 1, 2], 0⟩,
 ⟨5, ⟨(some 16), .eq false true [.int, .int, .int, .int] (.tmp 11) (.tmp 15), none⟩, [0, 4, 3, 1, 2], 0⟩])
 (.cond (.tmp 16)
 (.seq
 (.ops [
 ⟨(some 17), .move (.tmp 5), none⟩,
 ⟨(some 4), .move (.tmp 17), none⟩])
 .ret)
 .skip))))
 (.ops [
 ⟨(some 18), .bin .add (.tmp 8) (.const (.int .i64 1)), none⟩,
 ⟨(some 8), .move (.tmp 18), none⟩])))))))
 (.seq
 (.ops [
 ⟨(some 4), .move (.const (.int .i64 (-1))), none⟩])
 .ret)))⟩
theorem t47_ok : goodFn Try.prog 47 = true ∧ cfn Try.prog 47 = t47 := ⟨by kernel_rfl, by kernel_rfl⟩

/-- (*matchguard/refs.Counts).count -/
def t48 : NFn := ⟨39, [],
 (.seq
 (.ops [
 ⟨(some 5), .box (.tmp 1), none⟩])
 (.seq
 (.draw 1 [
 ⟨0, ⟨(some 9), .move (.tmp 0), none⟩, [], 0⟩,
 ⟨1, ⟨(some 10), .nilCheck (.tmp 9), none⟩, [0], 0⟩,
 ⟨2, ⟨(some 11), .off (.tmp 10) 10, none⟩, [1, 0], 0⟩,
 ⟨3, ⟨(some 12), .load 1 false (.tmp 11), none⟩, [2, 1, 0], 0⟩,
 ⟨4, ⟨(some 13), .load 4 true (.tmp 5), none⟩, [], 0⟩,
 ⟨5, ⟨(some 14), .lookup true [.int, .int, .int, .int] (.agg [(.int .i64 0), (.int .i64 0)]) false (.tmp 12) (.tmp 13), none⟩, [3, 2, 1, 0, 4], 0⟩,
 ⟨6, ⟨(some 8), .alloc [(.int .i64 0), (.int .i64 0)], none⟩, [], 0⟩,
 ⟨7, ⟨none, .store 2 (.tmp 8) (.tmp 14), none⟩, [6, 5, 3, 2, 1, 0, 4], 1⟩])
 (.seq
 (.ops [
 ⟨(some 15), .off (.tmp 8) 0, none⟩,
 ⟨(some 16), .load 1 false (.tmp 15), none⟩,
 ⟨(some 17), .move (.tmp 2), none⟩,
 ⟨(some 18), .bin .add (.tmp 16) (.tmp 17), none⟩,
 ⟨(some 19), .off (.tmp 8) 0, none⟩,
 ⟨none, .store 1 (.tmp 19) (.tmp 18), none⟩])
 (.seq
 (.ops [
 ⟨(some 20), .off (.tmp 8) 1, none⟩,
 ⟨(some 21), .load 1 false (.tmp 20), none⟩,
 ⟨(some 22), .move (.tmp 3), none⟩,
 ⟨(some 23), .bin .add (.tmp 21) (.tmp 22), none⟩,
 ⟨(some 24), .off (.tmp 8) 1, none⟩,
 ⟨none, .store 1 (.tmp 24) (.tmp 23), none⟩])
 (.seq
 (.seq
 (.ops [
 ⟨(some 25), .load 2 true (.tmp 8), none⟩,
 ⟨(some 26), .build [(.int .i64 0), (.int .i64 0)] [], none⟩,
 ⟨(some 27), .eq false true [.int, .int] (.tmp 25) (.tmp 26), none⟩])
 (.cond (.tmp 27)
 (.seq
 (.draw 0 [
 ⟨0, ⟨(some 28), .move (.tmp 0), none⟩, [], 0⟩,
 ⟨1, ⟨(some 29), .nilCheck (.tmp 28), none⟩, [0], 0⟩,
 ⟨2, ⟨(some 30), .off (.tmp 29) 10, none⟩, [1, 0], 0⟩,
 ⟨3, ⟨(some 31), .load 1 false (.tmp 30), none⟩, [2, 1, 0], 0⟩,
 ⟨4, ⟨(some 32), .load 4 true (.tmp 5), none⟩, [], 0⟩,
 ⟨5, ⟨none, .delete true [.int, .int, .int, .int] (.tmp 31) (.tmp 32), none⟩, [3, 2, 1, 0, 4], 0⟩])
 .ret)
 .skip))
 (.draw 0 [
 ⟨0, ⟨(some 33), .move (.tmp 0), none⟩, [], 0⟩,
 ⟨1, ⟨(some 34), .nilCheck (.tmp 33), none⟩, [0], 0⟩,
 ⟨2, ⟨(some 35), .off (.tmp 34) 10, none⟩, [1, 0], 0⟩,
 ⟨3, ⟨(some 36), .load 1 false (.tmp 35), none⟩, [2, 1, 0], 0⟩,
 ⟨4, ⟨(some 37), .load 4 true (.tmp 5), none⟩, [], 0⟩,
 ⟨5, ⟨(some 38), .load 2 true (.tmp 8), none⟩, [], 0⟩,
 ⟨6, ⟨none, .update true [.int, .int, .int, .int] (.tmp 36) (.tmp 37) (.tmp 38), none⟩, [3, 2, 1, 0, 4, 5], 0⟩]))))))⟩
theorem t48_ok : goodFn Try.prog 48 = true ∧ cfn Try.prog 48 = t48 := ⟨by kernel_rfl, by kernel_rfl⟩

/-- matchguard/matchguardcase.bitsOf -/
def t49 : NFn := ⟨21, [(.tmp 4)],
 (.seq
 (.ops [
 ⟨(some 2), .box (.tmp 0), none⟩,
 ⟨(some 4), .move (.const (.int .i64 0)), none⟩])
 (.seq
 (.seq
 (.ops [
 ⟨(some 7), .off (.tmp 2) 0, none⟩,
 ⟨(some 8), .load 1 false (.tmp 7), none⟩,
 ⟨(some 9), .lenSl (.tmp 8), none⟩,
 ⟨(some 10), .move (.const (.int .i64 0)), none⟩])
 (.block 0
 (.loop
 (.seq
 (.ops [
 ⟨(some 11), .bin .lss (.tmp 10) (.tmp 9), none⟩])
 (.seq
 (.cond (.tmp 11)
 .skip
 (.exit 0))
 (.seq
 (.block 1
 (.seq
 (.ops [
 ⟨(some 12), .idxSl (.tmp 8) (.tmp 10) 3, none⟩,
 ⟨(some 13), .load 3 true (.tmp 12), none⟩,
 ⟨(some 6), .alloc [(.int .i64 0), (.str ⟨#[]⟩), (.int .i64 0)], none⟩,
 ⟨none, .store 3 (.tmp 6) (.tmp 13), none⟩])
 (.seq
 (.ops [
 ⟨(some 14), .off (.tmp 6) 0, none⟩,
 ⟨(some 15), .load 1 false (.tmp 14), none⟩,
 ⟨(some 16), .move (.tmp 1), none⟩,
 ⟨(some 17), .bin .eql (.tmp 15) (.tmp 16), none⟩])
 (.cond (.tmp 17)
 (.seq
 (.ops [
 ⟨(some 18), .off (.tmp 6) 2, none⟩,
 ⟨(some 19), .load 1 false (.tmp 18), none⟩,
 ⟨(some 4), .move (.tmp 19), none⟩])
 .ret)
 .skip))))
 (.ops [
 ⟨(some 20), .bin .add (.tmp 10) (.const (.int .i64 1)), none⟩,
 ⟨(some 10), .move (.tmp 20), none⟩])))))))
 (.seq
 (.ops [
 ⟨(some 4), .move (.const (.int .i64 0)), none⟩])
 .ret)))⟩
theorem t49_ok : goodFn Try.prog 49 = true ∧ cfn Try.prog 49 = t49 := ⟨by kernel_rfl, by kernel_rfl⟩

/-- matchguard/matchguardcase.mask -/
def t50 : NFn := ⟨17, [(.cell 4 2 true)],
 (.seq
 (.ops [
 ⟨(some 4), .alloc [(.int .u64 0), (.int .u64 0)], none⟩])
 (.seq
 (.ops [
 ⟨(some 5), .move (.tmp 0), none⟩,
 ⟨(some 6), .conv .u64 (.tmp 5), none⟩,
 ⟨(some 7), .bin .shl (.const (.int .u64 1)) (.tmp 6), none⟩,
 ⟨(some 8), .bin .sub (.tmp 7) (.const (.int .u64 1)), none⟩,
 ⟨(some 9), .move (.tmp 0), none⟩,
 ⟨(some 10), .move (.tmp 1), none⟩,
 ⟨(some 11), .bin .sub (.tmp 9) (.tmp 10), none⟩,
 ⟨(some 12), .conv .u64 (.tmp 11), none⟩,
 ⟨(some 13), .bin .shl (.const (.int .u64 1)) (.tmp 12), none⟩,
 ⟨(some 14), .bin .sub (.tmp 13) (.const (.int .u64 1)), none⟩,
 ⟨(some 15), .bin .sub (.tmp 8) (.tmp 14), none⟩,
 ⟨(some 16), .build [(.int .u64 0), (.int .u64 0)] [(1, 1, (.tmp 15))], none⟩,
 ⟨none, .store 2 (.tmp 4) (.tmp 16), none⟩])
 .ret))⟩
theorem t50_ok : goodFn Try.prog 50 = true ∧ cfn Try.prog 50 = t50 := ⟨by kernel_rfl, by kernel_rfl⟩

/-- slices.pdqsortCmpFunc[matchguard/refs.Count] -/
def t51 : NFn := ⟨148, [],
 (.seq
 (.ops [
 ⟨(some 10), .move (.const (.bool true)), none⟩])
 (.seq
 (.ops [
 ⟨(some 11), .move (.const (.bool true)), none⟩])
 (.block 0
 (.loop
 (.block 1
 (.seq
 (.ops [
 ⟨(some 21), .move (.tmp 2), none⟩,
 ⟨(some 22), .move (.tmp 1), none⟩,
 ⟨(some 23), .bin .sub (.tmp 21) (.tmp 22), none⟩,
 ⟨(some 12), .move (.tmp 23), none⟩])
 (.seq
 (.seq
 (.ops [
 ⟨(some 24), .move (.tmp 12), none⟩,
 ⟨(some 25), .bin .leq (.tmp 24) (.const (.int .i64 12)), none⟩])
 (.cond (.tmp 25)
 (.seq
 (.ops [
 ⟨(some 26), .move (.tmp 0), none⟩,
 ⟨(some 27), .move (.tmp 1), none⟩,
 ⟨(some 28), .move (.tmp 2), none⟩,
 ⟨(some 29), .move (.tmp 4), none⟩,
 ⟨(some 30), .call 55 [(.tmp 26), (.tmp 27), (.tmp 28), (.tmp 29)], none⟩])
 .ret)
 .skip))
 (.seq
 (.seq
 (.ops [
 ⟨(some 31), .move (.tmp 3), none⟩,
 ⟨(some 32), .bin .eql (.tmp 31) (.const (.int .i64 0)), none⟩])
 (.cond (.tmp 32)
 (.seq
 (.ops [
 ⟨(some 33), .move (.tmp 0), none⟩,
 ⟨(some 34), .move (.tmp 1), none⟩,
 ⟨(some 35), .move (.tmp 2), none⟩,
 ⟨(some 36), .move (.tmp 4), none⟩,
 ⟨(some 37), .call 56 [(.tmp 33), (.tmp 34), (.tmp 35), (.tmp 36)], none⟩])
 .ret)
 .skip))
 (.seq
 (.seq
 (.ops [
 ⟨(some 38), .move (.tmp 10), none⟩,
 ⟨(some 39), .un .not (.tmp 38), none⟩])
 (.cond (.tmp 39)
 (.seq
 (.ops [
 ⟨(some 40), .move (.tmp 0), none⟩,
 ⟨(some 41), .move (.tmp 1), none⟩,
 ⟨(some 42), .move (.tmp 2), none⟩,
 ⟨(some 43), .move (.tmp 4), none⟩,
 ⟨(some 44), .call 57 [(.tmp 40), (.tmp 41), (.tmp 42), (.tmp 43)], none⟩])
 (.ops [
 ⟨(some 45), .move (.tmp 3), none⟩,
 ⟨(some 46), .bin .sub (.tmp 45) (.const (.int .i64 1)), none⟩,
 ⟨(some 3), .move (.tmp 46), none⟩]))
 .skip))
 (.seq
 (.ops [
 ⟨(some 48), .move (.tmp 0), none⟩,
 ⟨(some 49), .move (.tmp 1), none⟩,
 ⟨(some 50), .move (.tmp 2), none⟩,
 ⟨(some 51), .move (.tmp 4), none⟩,
 ⟨(some 52), .call 58 [(.tmp 48), (.tmp 49), (.tmp 50), (.tmp 51)], none⟩,
 ⟨(some 47), .move (.tmp 52), none⟩,
 ⟨(some 53), .extract (.tmp 47) 0, none⟩,
 ⟨(some 54), .extract (.tmp 47) 1, none⟩,
 ⟨(some 13), .move (.tmp 53), none⟩,
 ⟨(some 14), .move (.tmp 54), none⟩])
 (.seq
 (.seq
 (.ops [
 ⟨(some 55), .move (.tmp 14), none⟩,
 ⟨(some 56), .bin .eql (.tmp 55) (.const (.int .i64 2)), none⟩])
 (.cond (.tmp 56)
 (.seq
 (.ops [
 ⟨(some 57), .move (.tmp 0), none⟩,
 ⟨(some 58), .move (.tmp 1), none⟩,
 ⟨(some 59), .move (.tmp 2), none⟩,
 ⟨(some 60), .move (.tmp 4), none⟩,
 ⟨(some 61), .call 59 [(.tmp 57), (.tmp 58), (.tmp 59), (.tmp 60)], none⟩])
 (.seq
 (.ops [
 ⟨(some 62), .move (.tmp 2), none⟩,
 ⟨(some 63), .bin .sub (.tmp 62) (.const (.int .i64 1)), none⟩,
 ⟨(some 64), .move (.tmp 13), none⟩,
 ⟨(some 65), .move (.tmp 1), none⟩,
 ⟨(some 66), .bin .sub (.tmp 64) (.tmp 65), none⟩,
 ⟨(some 67), .bin .sub (.tmp 63) (.tmp 66), none⟩,
 ⟨(some 13), .move (.tmp 67), none⟩])
 (.ops [
 ⟨(some 14), .move (.const (.int .i64 1)), none⟩])))
 .skip))
 (.seq
 (.seq
 (.ops [
 ⟨(some 68), .move (.tmp 10), none⟩,
 ⟨(some 69), .move (.tmp 68), none⟩,
 ⟨(some 70), .move (.tmp 11), (some (69, true))⟩,
 ⟨(some 71), .pick (.tmp 69) (.tmp 70) (.const (.bool false)), none⟩,
 ⟨(some 72), .move (.tmp 71), none⟩,
 ⟨(some 73), .move (.tmp 14), (some (72, true))⟩,
 ⟨(some 74), .bin .eql (.tmp 73) (.const (.int .i64 1)), (some (72, true))⟩,
 ⟨(some 75), .pick (.tmp 72) (.tmp 74) (.const (.bool false)), none⟩])
 (.cond (.tmp 75)
 (.seq
 (.ops [
 ⟨(some 76), .move (.tmp 0), none⟩,
 ⟨(some 77), .move (.tmp 1), none⟩,
 ⟨(some 78), .move (.tmp 2), none⟩,
 ⟨(some 79), .move (.tmp 4), none⟩,
 ⟨(some 80), .call 60 [(.tmp 76), (.tmp 77), (.tmp 78), (.tmp 79)], none⟩])
 (.cond (.tmp 80)
 .ret
 .skip))
 .skip))
 (.seq
 (.seq
 (.draw 0 [
 ⟨0, ⟨(some 81), .move (.tmp 1), none⟩, [], 0⟩,
 ⟨1, ⟨(some 82), .bin .gtr (.tmp 81) (.const (.int .i64 0)), none⟩, [0], 0⟩,
 ⟨2, ⟨(some 83), .move (.tmp 82), none⟩, [1, 0], 0⟩,
 ⟨3, ⟨(some 84), .move (.tmp 4), (some (83, true))⟩, [2, 1, 0], 0⟩,
 ⟨4, ⟨(some 85), .move (.tmp 0), (some (83, true))⟩, [2, 1, 0], 0⟩,
 ⟨5, ⟨(some 86), .move (.tmp 1), (some (83, true))⟩, [2, 1, 0], 0⟩,
 ⟨6, ⟨(some 87), .bin .sub (.tmp 86) (.const (.int .i64 1)), (some (83, true))⟩, [5, 2, 1, 0], 0⟩,
 ⟨7, ⟨(some 88), .idxSl (.tmp 85) (.tmp 87) 6, (some (83, true))⟩, [4, 2, 1, 0, 6, 5], 0⟩,
 ⟨8, ⟨(some 89), .load 6 true (.tmp 88), (some (83, true))⟩, [7, 4, 2, 1, 0, 6, 5], 0⟩,
 ⟨9, ⟨(some 90), .move (.tmp 0), (some (83, true))⟩, [2, 1, 0], 0⟩,
 ⟨10, ⟨(some 91), .move (.tmp 13), (some (83, true))⟩, [2, 1, 0], 0⟩,
 ⟨11, ⟨(some 92), .idxSl (.tmp 90) (.tmp 91) 6, (some (83, true))⟩, [9, 2, 1, 0, 10], 0⟩,
 ⟨12, ⟨(some 93), .load 6 true (.tmp 92), (some (83, true))⟩, [11, 9, 2, 1, 0, 10], 0⟩,
 ⟨13, ⟨(some 94), .callv (.tmp 84) [(.tmp 89), (.tmp 93)], (some (83, true))⟩, [3, 2, 1, 0, 8, 7, 4, 6, 5, 12, 11, 9, 10], 0⟩,
 ⟨14, ⟨(some 95), .bin .lss (.tmp 94) (.const (.int .i64 0)), (some (83, true))⟩, [13, 3, 2, 1, 0, 8, 7, 4, 6, 5, 12, 11, 9, 10], 0⟩,
 ⟨15, ⟨(some 96), .un .not (.tmp 95), (some (83, true))⟩, [14, 13, 3, 2, 1, 0, 8, 7, 4, 6, 5, 12, 11, 9, 10], 0⟩,
 ⟨16, ⟨(some 97), .pick (.tmp 83) (.tmp 96) (.const (.bool false)), none⟩, [2, 1, 0, 15, 14, 13, 3, 8, 7, 4, 6, 5, 12, 11, 9, 10], 0⟩])
 (.cond (.tmp 97)
 (.seq
 (.ops [
 ⟨(some 98), .move (.tmp 0), none⟩,
 ⟨(some 99), .move (.tmp 1), none⟩,
 ⟨(some 100), .move (.tmp 2), none⟩,
 ⟨(some 101), .move (.tmp 13), none⟩,
 ⟨(some 102), .move (.tmp 4), none⟩,
 ⟨(some 103), .call 61 [(.tmp 98), (.tmp 99), (.tmp 100), (.tmp 101), (.tmp 102)], none⟩,
 ⟨(some 15), .move (.tmp 103), none⟩])
 (.seq
 (.ops [
 ⟨(some 104), .move (.tmp 15), none⟩,
 ⟨(some 1), .move (.tmp 104), none⟩])
 (.exit 1)))
 .skip))
 (.seq
 (.ops [
 ⟨(some 106), .move (.tmp 0), none⟩,
 ⟨(some 107), .move (.tmp 1), none⟩,
 ⟨(some 108), .move (.tmp 2), none⟩,
 ⟨(some 109), .move (.tmp 13), none⟩,
 ⟨(some 110), .move (.tmp 4), none⟩,
 ⟨(some 111), .call 62 [(.tmp 106), (.tmp 107), (.tmp 108), (.tmp 109), (.tmp 110)], none⟩,
 ⟨(some 105), .move (.tmp 111), none⟩,
 ⟨(some 112), .extract (.tmp 105) 0, none⟩,
 ⟨(some 113), .extract (.tmp 105) 1, none⟩,
 ⟨(some 16), .move (.tmp 112), none⟩,
 ⟨(some 17), .move (.tmp 113), none⟩])
 (.seq
 (.ops [
 ⟨(some 114), .move (.tmp 17), none⟩,
 ⟨(some 11), .move (.tmp 114), none⟩])
 (.seq
 (.ops [
 ⟨(some 115), .move (.tmp 16), none⟩,
 ⟨(some 116), .move (.tmp 1), none⟩,
 ⟨(some 117), .bin .sub (.tmp 115) (.tmp 116), none⟩,
 ⟨(some 118), .move (.tmp 2), none⟩,
 ⟨(some 119), .move (.tmp 16), none⟩,
 ⟨(some 120), .bin .sub (.tmp 118) (.tmp 119), none⟩,
 ⟨(some 18), .move (.tmp 117), none⟩,
 ⟨(some 19), .move (.tmp 120), none⟩])
 (.seq
 (.ops [
 ⟨(some 121), .move (.tmp 12), none⟩,
 ⟨(some 122), .bin .quo (.tmp 121) (.const (.int .i64 8)), none⟩,
 ⟨(some 20), .move (.tmp 122), none⟩])
 (.seq
 (.ops [
 ⟨(some 123), .move (.tmp 18), none⟩,
 ⟨(some 124), .move (.tmp 19), none⟩,
 ⟨(some 125), .bin .lss (.tmp 123) (.tmp 124), none⟩])
 (.cond (.tmp 125)
 (.seq
 (.ops [
 ⟨(some 126), .move (.tmp 18), none⟩,
 ⟨(some 127), .move (.tmp 20), none⟩,
 ⟨(some 128), .bin .geq (.tmp 126) (.tmp 127), none⟩,
 ⟨(some 10), .move (.tmp 128), none⟩])
 (.seq
 (.ops [
 ⟨(some 129), .move (.tmp 0), none⟩,
 ⟨(some 130), .move (.tmp 1), none⟩,
 ⟨(some 131), .move (.tmp 16), none⟩,
 ⟨(some 132), .move (.tmp 3), none⟩,
 ⟨(some 133), .move (.tmp 4), none⟩,
 ⟨(some 134), .call 51 [(.tmp 129), (.tmp 130), (.tmp 131), (.tmp 132), (.tmp 133)], none⟩])
 (.ops [
 ⟨(some 135), .move (.tmp 16), none⟩,
 ⟨(some 136), .bin .add (.tmp 135) (.const (.int .i64 1)), none⟩,
 ⟨(some 1), .move (.tmp 136), none⟩])))
 (.seq
 (.ops [
 ⟨(some 137), .move (.tmp 19), none⟩,
 ⟨(some 138), .move (.tmp 20), none⟩,
 ⟨(some 139), .bin .geq (.tmp 137) (.tmp 138), none⟩,
 ⟨(some 10), .move (.tmp 139), none⟩])
 (.seq
 (.ops [
 ⟨(some 140), .move (.tmp 0), none⟩,
 ⟨(some 141), .move (.tmp 16), none⟩,
 ⟨(some 142), .bin .add (.tmp 141) (.const (.int .i64 1)), none⟩,
 ⟨(some 143), .move (.tmp 2), none⟩,
 ⟨(some 144), .move (.tmp 3), none⟩,
 ⟨(some 145), .move (.tmp 4), none⟩,
 ⟨(some 146), .call 51 [(.tmp 140), (.tmp 142), (.tmp 143), (.tmp 144), (.tmp 145)], none⟩])
 (.ops [
 ⟨(some 147), .move (.tmp 16), none⟩,
 ⟨(some 2), .move (.tmp 147), none⟩]))))))))))))))))))))))⟩
theorem t51_ok : goodFn Try.prog 51 = true ∧ cfn Try.prog 51 = t51 := ⟨by kernel_rfl, by kernel_rfl⟩

/-- math/bits.Len -/
def t52 : NFn := ⟨8, [(.tmp 2)],
 (.seq
 (.ops [
 ⟨(some 2), .move (.const (.int .i64 0)), none⟩])
 (.seq
 (.cond (.const (.bool false))
 (.seq
 (.ops [
 ⟨(some 3), .move (.tmp 0), none⟩,
 ⟨(some 4), .conv .u32 (.tmp 3), none⟩,
 ⟨(some 5), .call 63 [(.tmp 4)], none⟩,
 ⟨(some 2), .move (.tmp 5), none⟩])
 .ret)
 .skip)
 (.seq
 (.ops [
 ⟨(some 6), .move (.tmp 0), none⟩,
 ⟨(some 7), .call 64 [(.tmp 6)], none⟩,
 ⟨(some 2), .move (.tmp 7), none⟩])
 .ret)))⟩
theorem t52_ok : goodFn Try.prog 52 = true ∧ cfn Try.prog 52 = t52 := ⟨by kernel_rfl, by kernel_rfl⟩

/-- cmp.isNaN[int] -/
def t53 : NFn := ⟨6, [(.tmp 2)],
 (.seq
 (.ops [
 ⟨(some 2), .move (.const (.bool false)), none⟩])
 (.seq
 (.ops [
 ⟨(some 3), .move (.tmp 0), none⟩,
 ⟨(some 4), .move (.tmp 0), none⟩,
 ⟨(some 5), .bin .neq (.tmp 3) (.tmp 4), none⟩,
 ⟨(some 2), .move (.tmp 5), none⟩])
 .ret))⟩
theorem t53_ok : goodFn Try.prog 53 = true ∧ cfn Try.prog 53 = t53 := ⟨by kernel_rfl, by kernel_rfl⟩

/-- matchguard/matchguardref16.before -/
def t54 : NFn := ⟨33, [(.tmp 4)],
 (.seq
 (.ops [
 ⟨(some 2), .box (.tmp 0), none⟩,
 ⟨(some 3), .box (.tmp 1), none⟩,
 ⟨(some 4), .move (.const (.bool false)), none⟩])
 (.seq
 (.block 0
 (.seq
 (.ops [
 ⟨(some 6), .off (.tmp 2) 0, none⟩,
 ⟨(some 7), .load 1 false (.tmp 6), none⟩,
 ⟨(some 8), .off (.tmp 3) 0, none⟩,
 ⟨(some 9), .load 1 false (.tmp 8), none⟩,
 ⟨(some 10), .bin .neq (.tmp 7) (.tmp 9), none⟩,
 ⟨(some 5), .move (.tmp 10), none⟩])
 (.cond (.tmp 5)
 (.seq
 (.ops [
 ⟨(some 11), .off (.tmp 2) 0, none⟩,
 ⟨(some 12), .load 1 false (.tmp 11), none⟩,
 ⟨(some 13), .off (.tmp 3) 0, none⟩,
 ⟨(some 14), .load 1 false (.tmp 13), none⟩,
 ⟨(some 15), .bin .lss (.tmp 12) (.tmp 14), none⟩,
 ⟨(some 4), .move (.tmp 15), none⟩])
 .ret)
 (.seq
 (.ops [
 ⟨(some 17), .off (.tmp 2) 1, none⟩,
 ⟨(some 18), .load 1 false (.tmp 17), none⟩,
 ⟨(some 19), .off (.tmp 3) 1, none⟩,
 ⟨(some 20), .load 1 false (.tmp 19), none⟩,
 ⟨(some 21), .bin .neq (.tmp 18) (.tmp 20), none⟩,
 ⟨(some 16), .move (.tmp 21), none⟩])
 (.cond (.tmp 16)
 (.seq
 (.ops [
 ⟨(some 22), .off (.tmp 2) 1, none⟩,
 ⟨(some 23), .load 1 false (.tmp 22), none⟩,
 ⟨(some 24), .off (.tmp 3) 1, none⟩,
 ⟨(some 25), .load 1 false (.tmp 24), none⟩,
 ⟨(some 26), .bin .lss (.tmp 23) (.tmp 25), none⟩,
 ⟨(some 4), .move (.tmp 26), none⟩])
 .ret)
 .skip)))))
 (.seq
 (.ops [
 ⟨(some 27), .off (.tmp 2) 2, none⟩,
 ⟨(some 28), .load 2 true (.tmp 27), none⟩,
 ⟨(some 29), .off (.tmp 3) 2, none⟩,
 ⟨(some 30), .load 2 true (.tmp 29), none⟩,
 ⟨(some 31), .call 65 [(.tmp 28), (.tmp 30)], none⟩,
 ⟨(some 32), .bin .lss (.tmp 31) (.const (.int .i64 0)), none⟩,
 ⟨(some 4), .move (.tmp 32), none⟩])
 .ret)))⟩
theorem t54_ok : goodFn Try.prog 54 = true ∧ cfn Try.prog 54 = t54 := ⟨by kernel_rfl, by kernel_rfl⟩

/-- slices.insertionSortCmpFunc[matchguard/refs.Count] -/
def t55 : NFn := ⟨53, [],
 (.seq
 (.ops [
 ⟨(some 10), .move (.tmp 1), none⟩,
 ⟨(some 11), .bin .add (.tmp 10) (.const (.int .i64 1)), none⟩,
 ⟨(some 8), .move (.tmp 11), none⟩])
 (.block 0
 (.loop
 (.seq
 (.seq
 (.ops [
 ⟨(some 12), .move (.tmp 8), none⟩,
 ⟨(some 13), .move (.tmp 2), none⟩,
 ⟨(some 14), .bin .lss (.tmp 12) (.tmp 13), none⟩])
 (.cond (.tmp 14)
 .skip
 (.exit 0)))
 (.seq
 (.block 1
 (.seq
 (.ops [
 ⟨(some 17), .move (.tmp 8), none⟩,
 ⟨(some 9), .move (.tmp 17), none⟩])
 (.block 2
 (.loop
 (.seq
 (.seq
 (.draw 0 [
 ⟨0, ⟨(some 18), .move (.tmp 9), none⟩, [], 0⟩,
 ⟨1, ⟨(some 19), .move (.tmp 1), none⟩, [], 0⟩,
 ⟨2, ⟨(some 20), .bin .gtr (.tmp 18) (.tmp 19), none⟩, [0, 1], 0⟩,
 ⟨3, ⟨(some 21), .move (.tmp 20), none⟩, [2, 0, 1], 0⟩,
 ⟨4, ⟨(some 22), .move (.tmp 3), (some (21, true))⟩, [3, 2, 0, 1], 0⟩,
 ⟨5, ⟨(some 23), .move (.tmp 0), (some (21, true))⟩, [3, 2, 0, 1], 0⟩,
 ⟨6, ⟨(some 24), .move (.tmp 9), (some (21, true))⟩, [3, 2, 0, 1], 0⟩,
 ⟨7, ⟨(some 25), .idxSl (.tmp 23) (.tmp 24) 6, (some (21, true))⟩, [5, 3, 2, 0, 1, 6], 0⟩,
 ⟨8, ⟨(some 26), .load 6 true (.tmp 25), (some (21, true))⟩, [7, 5, 3, 2, 0, 1, 6], 0⟩,
 ⟨9, ⟨(some 27), .move (.tmp 0), (some (21, true))⟩, [3, 2, 0, 1], 0⟩,
 ⟨10, ⟨(some 28), .move (.tmp 9), (some (21, true))⟩, [3, 2, 0, 1], 0⟩,
 ⟨11, ⟨(some 29), .bin .sub (.tmp 28) (.const (.int .i64 1)), (some (21, true))⟩, [10, 3, 2, 0, 1], 0⟩,
 ⟨12, ⟨(some 30), .idxSl (.tmp 27) (.tmp 29) 6, (some (21, true))⟩, [9, 3, 2, 0, 1, 11, 10], 0⟩,
 ⟨13, ⟨(some 31), .load 6 true (.tmp 30), (some (21, true))⟩, [12, 9, 3, 2, 0, 1, 11, 10], 0⟩,
 ⟨14, ⟨(some 32), .callv (.tmp 22) [(.tmp 26), (.tmp 31)], (some (21, true))⟩, [4, 3, 2, 0, 1, 8, 7, 5, 6, 13, 12, 9, 11, 10], 0⟩,
 ⟨15, ⟨(some 33), .bin .lss (.tmp 32) (.const (.int .i64 0)), (some (21, true))⟩, [14, 4, 3, 2, 0, 1, 8, 7, 5, 6, 13, 12, 9, 11, 10], 0⟩,
 ⟨16, ⟨(some 34), .pick (.tmp 21) (.tmp 33) (.const (.bool false)), none⟩, [3, 2, 0, 1, 15, 14, 4, 8, 7, 5, 6, 13, 12, 9, 11, 10], 0⟩])
 (.cond (.tmp 34)
 .skip
 (.exit 2)))
 (.seq
 (.block 3
 (.draw 0 [
 ⟨0, ⟨(some 37), .move (.tmp 0), none⟩, [], 0⟩,
 ⟨1, ⟨(some 38), .move (.tmp 9), none⟩, [], 0⟩,
 ⟨2, ⟨(some 39), .move (.tmp 0), none⟩, [], 0⟩,
 ⟨3, ⟨(some 40), .move (.tmp 9), none⟩, [], 0⟩,
 ⟨4, ⟨(some 41), .bin .sub (.tmp 40) (.const (.int .i64 1)), none⟩, [3], 0⟩,
 ⟨5, ⟨(some 42), .move (.tmp 0), none⟩, [], 0⟩,
 ⟨6, ⟨(some 43), .move (.tmp 9), none⟩, [], 0⟩,
 ⟨7, ⟨(some 44), .bin .sub (.tmp 43) (.const (.int .i64 1)), none⟩, [6], 0⟩,
 ⟨8, ⟨(some 45), .idxSl (.tmp 42) (.tmp 44) 6, none⟩, [5, 7, 6], 0⟩,
 ⟨9, ⟨(some 46), .load 6 true (.tmp 45), none⟩, [8, 5, 7, 6], 0⟩,
 ⟨10, ⟨(some 47), .move (.tmp 0), none⟩, [], 0⟩,
 ⟨11, ⟨(some 48), .move (.tmp 9), none⟩, [], 0⟩,
 ⟨12, ⟨(some 49), .idxSl (.tmp 47) (.tmp 48) 6, none⟩, [10, 11], 0⟩,
 ⟨13, ⟨(some 50), .load 6 true (.tmp 49), none⟩, [12, 10, 11], 0⟩,
 ⟨14, ⟨(some 51), .idxSl (.tmp 37) (.tmp 38) 6, none⟩, [0, 1, 5, 6, 7, 8, 9, 13, 12, 10, 11], 0⟩,
 ⟨15, ⟨none, .store 6 (.tmp 51) (.tmp 46), none⟩, [14, 0, 1, 5, 6, 7, 8, 9, 13, 12, 10, 11], 0⟩,
 ⟨16, ⟨(some 52), .idxSl (.tmp 39) (.tmp 41) 6, none⟩, [2, 4, 3, 0, 1, 5, 6, 7, 8, 9, 10, 11, 12, 13, 14, 15], 0⟩,
 ⟨17, ⟨none, .store 6 (.tmp 52) (.tmp 50), none⟩, [16, 2, 4, 3, 0, 1, 5, 6, 7, 8, 9, 10, 11, 12, 13, 14, 15], 0⟩]))
 (.ops [
 ⟨(some 35), .move (.tmp 9), none⟩,
 ⟨(some 36), .bin .sub (.tmp 35) (.const (.int .i64 1)), none⟩,
 ⟨(some 9), .move (.tmp 36), none⟩])))))))
 (.ops [
 ⟨(some 15), .move (.tmp 8), none⟩,
 ⟨(some 16), .bin .add (.tmp 15) (.const (.int .i64 1)), none⟩,
 ⟨(some 8), .move (.tmp 16), none⟩]))))))⟩
theorem t55_ok : goodFn Try.prog 55 = true ∧ cfn Try.prog 55 = t55 := ⟨by kernel_rfl, by kernel_rfl⟩

/-- slices.heapSortCmpFunc[matchguard/refs.Count] -/
def t56 : NFn := ⟨60, [],
 (.seq
 (.ops [
 ⟨(some 13), .move (.tmp 1), none⟩,
 ⟨(some 8), .move (.tmp 13), none⟩])
 (.seq
 (.ops [
 ⟨(some 9), .move (.const (.int .i64 0)), none⟩])
 (.seq
 (.ops [
 ⟨(some 14), .move (.tmp 2), none⟩,
 ⟨(some 15), .move (.tmp 1), none⟩,
 ⟨(some 16), .bin .sub (.tmp 14) (.tmp 15), none⟩,
 ⟨(some 10), .move (.tmp 16), none⟩])
 (.seq
 (.seq
 (.ops [
 ⟨(some 17), .move (.tmp 10), none⟩,
 ⟨(some 18), .bin .sub (.tmp 17) (.const (.int .i64 1)), none⟩,
 ⟨(some 19), .bin .quo (.tmp 18) (.const (.int .i64 2)), none⟩,
 ⟨(some 11), .move (.tmp 19), none⟩])
 (.block 0
 (.loop
 (.seq
 (.seq
 (.ops [
 ⟨(some 20), .move (.tmp 11), none⟩,
 ⟨(some 21), .bin .geq (.tmp 20) (.const (.int .i64 0)), none⟩])
 (.cond (.tmp 21)
 .skip
 (.exit 0)))
 (.seq
 (.block 1
 (.ops [
 ⟨(some 24), .move (.tmp 0), none⟩,
 ⟨(some 25), .move (.tmp 11), none⟩,
 ⟨(some 26), .move (.tmp 10), none⟩,
 ⟨(some 27), .move (.tmp 8), none⟩,
 ⟨(some 28), .move (.tmp 3), none⟩,
 ⟨(some 29), .call 66 [(.tmp 24), (.tmp 25), (.tmp 26), (.tmp 27), (.tmp 28)], none⟩]))
 (.ops [
 ⟨(some 22), .move (.tmp 11), none⟩,
 ⟨(some 23), .bin .sub (.tmp 22) (.const (.int .i64 1)), none⟩,
 ⟨(some 11), .move (.tmp 23), none⟩]))))))
 (.seq
 (.ops [
 ⟨(some 30), .move (.tmp 10), none⟩,
 ⟨(some 31), .bin .sub (.tmp 30) (.const (.int .i64 1)), none⟩,
 ⟨(some 12), .move (.tmp 31), none⟩])
 (.block 2
 (.loop
 (.seq
 (.seq
 (.ops [
 ⟨(some 32), .move (.tmp 12), none⟩,
 ⟨(some 33), .bin .geq (.tmp 32) (.const (.int .i64 0)), none⟩])
 (.cond (.tmp 33)
 .skip
 (.exit 2)))
 (.seq
 (.block 3
 (.seq
 (.draw 0 [
 ⟨0, ⟨(some 36), .move (.tmp 0), none⟩, [], 0⟩,
 ⟨1, ⟨(some 37), .move (.tmp 8), none⟩, [], 0⟩,
 ⟨2, ⟨(some 38), .move (.tmp 0), none⟩, [], 0⟩,
 ⟨3, ⟨(some 39), .move (.tmp 8), none⟩, [], 0⟩,
 ⟨4, ⟨(some 40), .move (.tmp 12), none⟩, [], 0⟩,
 ⟨5, ⟨(some 41), .bin .add (.tmp 39) (.tmp 40), none⟩, [3, 4], 0⟩,
 ⟨6, ⟨(some 42), .move (.tmp 0), none⟩, [], 0⟩,
 ⟨7, ⟨(some 43), .move (.tmp 8), none⟩, [], 0⟩,
 ⟨8, ⟨(some 44), .move (.tmp 12), none⟩, [], 0⟩,
 ⟨9, ⟨(some 45), .bin .add (.tmp 43) (.tmp 44), none⟩, [7, 8], 0⟩,
 ⟨10, ⟨(some 46), .idxSl (.tmp 42) (.tmp 45) 6, none⟩, [6, 9, 7, 8], 0⟩,
 ⟨11, ⟨(some 47), .load 6 true (.tmp 46), none⟩, [10, 6, 9, 7, 8], 0⟩,
 ⟨12, ⟨(some 48), .move (.tmp 0), none⟩, [], 0⟩,
 ⟨13, ⟨(some 49), .move (.tmp 8), none⟩, [], 0⟩,
 ⟨14, ⟨(some 50), .idxSl (.tmp 48) (.tmp 49) 6, none⟩, [12, 13], 0⟩,
 ⟨15, ⟨(some 51), .load 6 true (.tmp 50), none⟩, [14, 12, 13], 0⟩,
 ⟨16, ⟨(some 52), .idxSl (.tmp 36) (.tmp 37) 6, none⟩, [0, 1, 6, 7, 8, 9, 10, 11, 15, 14, 12, 13], 0⟩,
 ⟨17, ⟨none, .store 6 (.tmp 52) (.tmp 47), none⟩, [16, 0, 1, 6, 7, 8, 9, 10, 11, 15, 14, 12, 13], 0⟩,
 ⟨18, ⟨(some 53), .idxSl (.tmp 38) (.tmp 41) 6, none⟩, [2, 5, 3, 4, 0, 1, 6, 7, 8, 9, 10, 11, 12, 13, 14, 15, 16, 17], 0⟩,
 ⟨19, ⟨none, .store 6 (.tmp 53) (.tmp 51), none⟩, [18, 2, 5, 3, 4, 0, 1, 6, 7, 8, 9, 10, 11, 12, 13, 14, 15, 16, 17], 0⟩])
 (.ops [
 ⟨(some 54), .move (.tmp 0), none⟩,
 ⟨(some 55), .move (.tmp 9), none⟩,
 ⟨(some 56), .move (.tmp 12), none⟩,
 ⟨(some 57), .move (.tmp 8), none⟩,
 ⟨(some 58), .move (.tmp 3), none⟩,
 ⟨(some 59), .call 66 [(.tmp 54), (.tmp 55), (.tmp 56), (.tmp 57), (.tmp 58)], none⟩])))
 (.ops [
 ⟨(some 34), .move (.tmp 12), none⟩,
 ⟨(some 35), .bin .sub (.tmp 34) (.const (.int .i64 1)), none⟩,
 ⟨(some 12), .move (.tmp 35), none⟩]))))))))))⟩
theorem t56_ok : goodFn Try.prog 56 = true ∧ cfn Try.prog 56 = t56 := ⟨by kernel_rfl, by kernel_rfl⟩

/-- slices.breakPatternsCmpFunc[matchguard/refs.Count] -/
def t57 : NFn := ⟨67, [],
 (.seq
 (.ops [
 ⟨(some 13), .move (.tmp 2), none⟩,
 ⟨(some 14), .move (.tmp 1), none⟩,
 ⟨(some 15), .bin .sub (.tmp 13) (.tmp 14), none⟩,
 ⟨(some 8), .move (.tmp 15), none⟩])
 (.seq
 (.ops [
 ⟨(some 16), .move (.tmp 8), none⟩,
 ⟨(some 17), .bin .geq (.tmp 16) (.const (.int .i64 8)), none⟩])
 (.cond (.tmp 17)
 (.seq
 (.ops [
 ⟨(some 18), .move (.tmp 8), none⟩,
 ⟨(some 19), .conv .u64 (.tmp 18), none⟩,
 ⟨(some 9), .alloc [(.int .u64 0)], none⟩,
 ⟨none, .store 1 (.tmp 9) (.tmp 19), none⟩])
 (.seq
 (.ops [
 ⟨(some 20), .move (.tmp 8), none⟩,
 ⟨(some 21), .call 67 [(.tmp 20)], none⟩,
 ⟨(some 10), .move (.tmp 21), none⟩])
 (.seq
 (.ops [
 ⟨(some 22), .move (.tmp 1), none⟩,
 ⟨(some 23), .move (.tmp 8), none⟩,
 ⟨(some 24), .bin .quo (.tmp 23) (.const (.int .i64 4)), none⟩,
 ⟨(some 25), .bin .mul (.tmp 24) (.const (.int .i64 2)), none⟩,
 ⟨(some 26), .bin .add (.tmp 22) (.tmp 25), none⟩,
 ⟨(some 27), .bin .sub (.tmp 26) (.const (.int .i64 1)), none⟩,
 ⟨(some 11), .move (.tmp 27), none⟩])
 (.block 0
 (.loop
 (.seq
 (.seq
 (.ops [
 ⟨(some 28), .move (.tmp 11), none⟩,
 ⟨(some 29), .move (.tmp 1), none⟩,
 ⟨(some 30), .move (.tmp 8), none⟩,
 ⟨(some 31), .bin .quo (.tmp 30) (.const (.int .i64 4)), none⟩,
 ⟨(some 32), .bin .mul (.tmp 31) (.const (.int .i64 2)), none⟩,
 ⟨(some 33), .bin .add (.tmp 29) (.tmp 32), none⟩,
 ⟨(some 34), .bin .add (.tmp 33) (.const (.int .i64 1)), none⟩,
 ⟨(some 35), .bin .leq (.tmp 28) (.tmp 34), none⟩])
 (.cond (.tmp 35)
 .skip
 (.exit 0)))
 (.seq
 (.block 1
 (.seq
 (.ops [
 ⟨(some 38), .call 68 [(.tmp 9)], none⟩,
 ⟨(some 39), .move (.tmp 10), none⟩,
 ⟨(some 40), .bin .sub (.tmp 39) (.const (.int .u64 1)), none⟩,
 ⟨(some 41), .bin .and (.tmp 38) (.tmp 40), none⟩,
 ⟨(some 42), .conv .i64 (.tmp 41), none⟩,
 ⟨(some 12), .move (.tmp 42), none⟩])
 (.seq
 (.seq
 (.ops [
 ⟨(some 43), .move (.tmp 12), none⟩,
 ⟨(some 44), .move (.tmp 8), none⟩,
 ⟨(some 45), .bin .geq (.tmp 43) (.tmp 44), none⟩])
 (.cond (.tmp 45)
 (.ops [
 ⟨(some 46), .move (.tmp 12), none⟩,
 ⟨(some 47), .move (.tmp 8), none⟩,
 ⟨(some 48), .bin .sub (.tmp 46) (.tmp 47), none⟩,
 ⟨(some 12), .move (.tmp 48), none⟩])
 .skip))
 (.draw 0 [
 ⟨0, ⟨(some 49), .move (.tmp 0), none⟩, [], 0⟩,
 ⟨1, ⟨(some 50), .move (.tmp 11), none⟩, [], 0⟩,
 ⟨2, ⟨(some 51), .move (.tmp 0), none⟩, [], 0⟩,
 ⟨3, ⟨(some 52), .move (.tmp 1), none⟩, [], 0⟩,
 ⟨4, ⟨(some 53), .move (.tmp 12), none⟩, [], 0⟩,
 ⟨5, ⟨(some 54), .bin .add (.tmp 52) (.tmp 53), none⟩, [3, 4], 0⟩,
 ⟨6, ⟨(some 55), .move (.tmp 0), none⟩, [], 0⟩,
 ⟨7, ⟨(some 56), .move (.tmp 1), none⟩, [], 0⟩,
 ⟨8, ⟨(some 57), .move (.tmp 12), none⟩, [], 0⟩,
 ⟨9, ⟨(some 58), .bin .add (.tmp 56) (.tmp 57), none⟩, [7, 8], 0⟩,
 ⟨10, ⟨(some 59), .idxSl (.tmp 55) (.tmp 58) 6, none⟩, [6, 9, 7, 8], 0⟩,
 ⟨11, ⟨(some 60), .load 6 true (.tmp 59), none⟩, [10, 6, 9, 7, 8], 0⟩,
 ⟨12, ⟨(some 61), .move (.tmp 0), none⟩, [], 0⟩,
 ⟨13, ⟨(some 62), .move (.tmp 11), none⟩, [], 0⟩,
 ⟨14, ⟨(some 63), .idxSl (.tmp 61) (.tmp 62) 6, none⟩, [12, 13], 0⟩,
 ⟨15, ⟨(some 64), .load 6 true (.tmp 63), none⟩, [14, 12, 13], 0⟩,
 ⟨16, ⟨(some 65), .idxSl (.tmp 49) (.tmp 50) 6, none⟩, [0, 1, 6, 7, 8, 9, 10, 11, 15, 14, 12, 13], 0⟩,
 ⟨17, ⟨none, .store 6 (.tmp 65) (.tmp 60), none⟩, [16, 0, 1, 6, 7, 8, 9, 10, 11, 15, 14, 12, 13], 0⟩,
 ⟨18, ⟨(some 66), .idxSl (.tmp 51) (.tmp 54) 6, none⟩, [2, 5, 3, 4, 0, 1, 6, 7, 8, 9, 10, 11, 12, 13, 14, 15, 16, 17], 0⟩,
 ⟨19, ⟨none, .store 6 (.tmp 66) (.tmp 64), none⟩, [18, 2, 5, 3, 4, 0, 1, 6, 7, 8, 9, 10, 11, 12, 13, 14, 15, 16, 17], 0⟩]))))
 (.ops [
 ⟨(some 36), .move (.tmp 11), none⟩,
 ⟨(some 37), .bin .add (.tmp 36) (.const (.int .i64 1)), none⟩,
 ⟨(some 11), .move (.tmp 37), none⟩]))))))))
 .skip)))⟩
theorem t57_ok : goodFn Try.prog 57 = true ∧ cfn Try.prog 57 = t57 := ⟨by kernel_rfl, by kernel_rfl⟩

/-- slices.choosePivotCmpFunc[matchguard/refs.Count] -/
def t58 : NFn := ⟨63, [(.tmp 8), (.tmp 9)],
 (.seq
 (.ops [
 ⟨(some 8), .move (.const (.int .i64 0)), none⟩,
 ⟨(some 9), .move (.const (.int .i64 0)), none⟩])
 (.seq
 (.ops [
 ⟨(some 15), .move (.tmp 2), none⟩,
 ⟨(some 16), .move (.tmp 1), none⟩,
 ⟨(some 17), .bin .sub (.tmp 15) (.tmp 16), none⟩,
 ⟨(some 10), .move (.tmp 17), none⟩])
 (.seq
 (.ops [
 ⟨(some 11), .alloc [(.int .i64 0)], none⟩])
 (.seq
 (.ops [
 ⟨(some 18), .move (.tmp 1), none⟩,
 ⟨(some 19), .move (.tmp 10), none⟩,
 ⟨(some 20), .bin .quo (.tmp 19) (.const (.int .i64 4)), none⟩,
 ⟨(some 21), .bin .mul (.tmp 20) (.const (.int .i64 1)), none⟩,
 ⟨(some 22), .bin .add (.tmp 18) (.tmp 21), none⟩,
 ⟨(some 12), .move (.tmp 22), none⟩])
 (.seq
 (.ops [
 ⟨(some 23), .move (.tmp 1), none⟩,
 ⟨(some 24), .move (.tmp 10), none⟩,
 ⟨(some 25), .bin .quo (.tmp 24) (.const (.int .i64 4)), none⟩,
 ⟨(some 26), .bin .mul (.tmp 25) (.const (.int .i64 2)), none⟩,
 ⟨(some 27), .bin .add (.tmp 23) (.tmp 26), none⟩,
 ⟨(some 13), .move (.tmp 27), none⟩])
 (.seq
 (.ops [
 ⟨(some 28), .move (.tmp 1), none⟩,
 ⟨(some 29), .move (.tmp 10), none⟩,
 ⟨(some 30), .bin .quo (.tmp 29) (.const (.int .i64 4)), none⟩,
 ⟨(some 31), .bin .mul (.tmp 30) (.const (.int .i64 3)), none⟩,
 ⟨(some 32), .bin .add (.tmp 28) (.tmp 31), none⟩,
 ⟨(some 14), .move (.tmp 32), none⟩])
 (.seq
 (.seq
 (.ops [
 ⟨(some 33), .move (.tmp 10), none⟩,
 ⟨(some 34), .bin .geq (.tmp 33) (.const (.int .i64 8)), none⟩])
 (.cond (.tmp 34)
 (.seq
 (.seq
 (.ops [
 ⟨(some 35), .move (.tmp 10), none⟩,
 ⟨(some 36), .bin .geq (.tmp 35) (.const (.int .i64 50)), none⟩])
 (.cond (.tmp 36)
 (.seq
 (.ops [
 ⟨(some 37), .move (.tmp 0), none⟩,
 ⟨(some 38), .move (.tmp 12), none⟩,
 ⟨(some 39), .move (.tmp 3), none⟩,
 ⟨(some 40), .call 69 [(.tmp 37), (.tmp 38), (.tmp 11), (.tmp 39)], none⟩,
 ⟨(some 12), .move (.tmp 40), none⟩])
 (.seq
 (.ops [
 ⟨(some 41), .move (.tmp 0), none⟩,
 ⟨(some 42), .move (.tmp 13), none⟩,
 ⟨(some 43), .move (.tmp 3), none⟩,
 ⟨(some 44), .call 69 [(.tmp 41), (.tmp 42), (.tmp 11), (.tmp 43)], none⟩,
 ⟨(some 13), .move (.tmp 44), none⟩])
 (.ops [
 ⟨(some 45), .move (.tmp 0), none⟩,
 ⟨(some 46), .move (.tmp 14), none⟩,
 ⟨(some 47), .move (.tmp 3), none⟩,
 ⟨(some 48), .call 69 [(.tmp 45), (.tmp 46), (.tmp 11), (.tmp 47)], none⟩,
 ⟨(some 14), .move (.tmp 48), none⟩])))
 .skip))
 (.ops [
 ⟨(some 49), .move (.tmp 0), none⟩,
 ⟨(some 50), .move (.tmp 12), none⟩,
 ⟨(some 51), .move (.tmp 13), none⟩,
 ⟨(some 52), .move (.tmp 14), none⟩,
 ⟨(some 53), .move (.tmp 3), none⟩,
 ⟨(some 54), .call 70 [(.tmp 49), (.tmp 50), (.tmp 51), (.tmp 52), (.tmp 11), (.tmp 53)], none⟩,
 ⟨(some 13), .move (.tmp 54), none⟩]))
 .skip))
 (.seq
 (.ops [
 ⟨(some 55), .load 1 false (.tmp 11), none⟩])
 (.block 0
 (.seq
 (.ops [
 ⟨(some 58), .bin .eql (.tmp 55) (.const (.int .i64 0)), none⟩,
 ⟨(some 57), .move (.tmp 58), none⟩])
 (.cond (.tmp 57)
 (.seq
 (.ops [
 ⟨(some 59), .move (.tmp 13), none⟩,
 ⟨(some 8), .move (.tmp 59), none⟩,
 ⟨(some 9), .move (.const (.int .i64 1)), none⟩])
 .ret)
 (.seq
 (.ops [
 ⟨(some 61), .bin .eql (.tmp 55) (.const (.int .i64 12)), none⟩,
 ⟨(some 60), .move (.tmp 61), none⟩])
 (.cond (.tmp 60)
 (.seq
 (.ops [
 ⟨(some 62), .move (.tmp 13), none⟩,
 ⟨(some 8), .move (.tmp 62), none⟩,
 ⟨(some 9), .move (.const (.int .i64 2)), none⟩])
 .ret)
 (.seq
 (.ops [
 ⟨(some 56), .move (.tmp 13), none⟩,
 ⟨(some 8), .move (.tmp 56), none⟩,
 ⟨(some 9), .move (.const (.int .i64 0)), none⟩])
 .ret))))))))))))))⟩
theorem t58_ok : goodFn Try.prog 58 = true ∧ cfn Try.prog 58 = t58 := ⟨by kernel_rfl, by kernel_rfl⟩

/-- slices.reverseRangeCmpFunc[matchguard/refs.Count] -/
def t59 : NFn := ⟨34, [],
 (.seq
 (.ops [
 ⟨(some 10), .move (.tmp 1), none⟩,
 ⟨(some 8), .move (.tmp 10), none⟩])
 (.seq
 (.ops [
 ⟨(some 11), .move (.tmp 2), none⟩,
 ⟨(some 12), .bin .sub (.tmp 11) (.const (.int .i64 1)), none⟩,
 ⟨(some 9), .move (.tmp 12), none⟩])
 (.block 0
 (.loop
 (.seq
 (.seq
 (.ops [
 ⟨(some 13), .move (.tmp 8), none⟩,
 ⟨(some 14), .move (.tmp 9), none⟩,
 ⟨(some 15), .bin .lss (.tmp 13) (.tmp 14), none⟩])
 (.cond (.tmp 15)
 .skip
 (.exit 0)))
 (.block 1
 (.seq
 (.draw 0 [
 ⟨0, ⟨(some 16), .move (.tmp 0), none⟩, [], 0⟩,
 ⟨1, ⟨(some 17), .move (.tmp 8), none⟩, [], 0⟩,
 ⟨2, ⟨(some 18), .move (.tmp 0), none⟩, [], 0⟩,
 ⟨3, ⟨(some 19), .move (.tmp 9), none⟩, [], 0⟩,
 ⟨4, ⟨(some 20), .move (.tmp 0), none⟩, [], 0⟩,
 ⟨5, ⟨(some 21), .move (.tmp 9), none⟩, [], 0⟩,
 ⟨6, ⟨(some 22), .idxSl (.tmp 20) (.tmp 21) 6, none⟩, [4, 5], 0⟩,
 ⟨7, ⟨(some 23), .load 6 true (.tmp 22), none⟩, [6, 4, 5], 0⟩,
 ⟨8, ⟨(some 24), .move (.tmp 0), none⟩, [], 0⟩,
 ⟨9, ⟨(some 25), .move (.tmp 8), none⟩, [], 0⟩,
 ⟨10, ⟨(some 26), .idxSl (.tmp 24) (.tmp 25) 6, none⟩, [8, 9], 0⟩,
 ⟨11, ⟨(some 27), .load 6 true (.tmp 26), none⟩, [10, 8, 9], 0⟩,
 ⟨12, ⟨(some 28), .idxSl (.tmp 16) (.tmp 17) 6, none⟩, [0, 1, 4, 5, 6, 7, 11, 10, 8, 9], 0⟩,
 ⟨13, ⟨none, .store 6 (.tmp 28) (.tmp 23), none⟩, [12, 0, 1, 4, 5, 6, 7, 11, 10, 8, 9], 0⟩,
 ⟨14, ⟨(some 29), .idxSl (.tmp 18) (.tmp 19) 6, none⟩, [2, 3, 0, 1, 4, 5, 6, 7, 8, 9, 10, 11, 12, 13], 0⟩,
 ⟨15, ⟨none, .store 6 (.tmp 29) (.tmp 27), none⟩, [14, 2, 3, 0, 1, 4, 5, 6, 7, 8, 9, 10, 11, 12, 13], 0⟩])
 (.seq
 (.ops [
 ⟨(some 30), .move (.tmp 8), none⟩,
 ⟨(some 31), .bin .add (.tmp 30) (.const (.int .i64 1)), none⟩,
 ⟨(some 8), .move (.tmp 31), none⟩])
 (.ops [
 ⟨(some 32), .move (.tmp 9), none⟩,
 ⟨(some 33), .bin .sub (.tmp 32) (.const (.int .i64 1)), none⟩,
 ⟨(some 9), .move (.tmp 33), none⟩])))))))))⟩
theorem t59_ok : goodFn Try.prog 59 = true ∧ cfn Try.prog 59 = t59 := ⟨by kernel_rfl, by kernel_rfl⟩

/-- slices.partialInsertionSortCmpFunc[matchguard/refs.Count] -/
def t60 : NFn := ⟨141, [(.tmp 8)],
 (.seq
 (.ops [
 ⟨(some 8), .move (.const (.bool false)), none⟩])
 (.seq
 (.ops [
 ⟨(some 13), .move (.tmp 1), none⟩,
 ⟨(some 14), .bin .add (.tmp 13) (.const (.int .i64 1)), none⟩,
 ⟨(some 9), .move (.tmp 14), none⟩])
 (.seq
 (.seq
 (.ops [
 ⟨(some 10), .move (.const (.int .i64 0)), none⟩])
 (.block 0
 (.loop
 (.seq
 (.seq
 (.ops [
 ⟨(some 15), .move (.tmp 10), none⟩,
 ⟨(some 16), .bin .lss (.tmp 15) (.const (.int .i64 5)), none⟩])
 (.cond (.tmp 16)
 .skip
 (.exit 0)))
 (.seq
 (.block 1
 (.seq
 (.block 2
 (.loop
 (.seq
 (.seq
 (.draw 0 [
 ⟨0, ⟨(some 19), .move (.tmp 9), none⟩, [], 0⟩,
 ⟨1, ⟨(some 20), .move (.tmp 2), none⟩, [], 0⟩,
 ⟨2, ⟨(some 21), .bin .lss (.tmp 19) (.tmp 20), none⟩, [0, 1], 0⟩,
 ⟨3, ⟨(some 22), .move (.tmp 21), none⟩, [2, 0, 1], 0⟩,
 ⟨4, ⟨(some 23), .move (.tmp 3), (some (22, true))⟩, [3, 2, 0, 1], 0⟩,
 ⟨5, ⟨(some 24), .move (.tmp 0), (some (22, true))⟩, [3, 2, 0, 1], 0⟩,
 ⟨6, ⟨(some 25), .move (.tmp 9), (some (22, true))⟩, [3, 2, 0, 1], 0⟩,
 ⟨7, ⟨(some 26), .idxSl (.tmp 24) (.tmp 25) 6, (some (22, true))⟩, [5, 3, 2, 0, 1, 6], 0⟩,
 ⟨8, ⟨(some 27), .load 6 true (.tmp 26), (some (22, true))⟩, [7, 5, 3, 2, 0, 1, 6], 0⟩,
 ⟨9, ⟨(some 28), .move (.tmp 0), (some (22, true))⟩, [3, 2, 0, 1], 0⟩,
 ⟨10, ⟨(some 29), .move (.tmp 9), (some (22, true))⟩, [3, 2, 0, 1], 0⟩,
 ⟨11, ⟨(some 30), .bin .sub (.tmp 29) (.const (.int .i64 1)), (some (22, true))⟩, [10, 3, 2, 0, 1], 0⟩,
 ⟨12, ⟨(some 31), .idxSl (.tmp 28) (.tmp 30) 6, (some (22, true))⟩, [9, 3, 2, 0, 1, 11, 10], 0⟩,
 ⟨13, ⟨(some 32), .load 6 true (.tmp 31), (some (22, true))⟩, [12, 9, 3, 2, 0, 1, 11, 10], 0⟩,
 ⟨14, ⟨(some 33), .callv (.tmp 23) [(.tmp 27), (.tmp 32)], (some (22, true))⟩, [4, 3, 2, 0, 1, 8, 7, 5, 6, 13, 12, 9, 11, 10], 0⟩,
 ⟨15, ⟨(some 34), .bin .lss (.tmp 33) (.const (.int .i64 0)), (some (22, true))⟩, [14, 4, 3, 2, 0, 1, 8, 7, 5, 6, 13, 12, 9, 11, 10], 0⟩,
 ⟨16, ⟨(some 35), .un .not (.tmp 34), (some (22, true))⟩, [15, 14, 4, 3, 2, 0, 1, 8, 7, 5, 6, 13, 12, 9, 11, 10], 0⟩,
 ⟨17, ⟨(some 36), .pick (.tmp 22) (.tmp 35) (.const (.bool false)), none⟩, [3, 2, 0, 1, 16, 15, 14, 4, 8, 7, 5, 6, 13, 12, 9, 11, 10], 0⟩])
 (.cond (.tmp 36)
 .skip
 (.exit 2)))
 (.block 3
 (.ops [
 ⟨(some 37), .move (.tmp 9), none⟩,
 ⟨(some 38), .bin .add (.tmp 37) (.const (.int .i64 1)), none⟩,
 ⟨(some 9), .move (.tmp 38), none⟩])))))
 (.seq
 (.seq
 (.ops [
 ⟨(some 39), .move (.tmp 9), none⟩,
 ⟨(some 40), .move (.tmp 2), none⟩,
 ⟨(some 41), .bin .eql (.tmp 39) (.tmp 40), none⟩])
 (.cond (.tmp 41)
 (.seq
 (.ops [
 ⟨(some 8), .move (.const (.bool true)), none⟩])
 .ret)
 .skip))
 (.seq
 (.seq
 (.ops [
 ⟨(some 42), .move (.tmp 2), none⟩,
 ⟨(some 43), .move (.tmp 1), none⟩,
 ⟨(some 44), .bin .sub (.tmp 42) (.tmp 43), none⟩,
 ⟨(some 45), .bin .lss (.tmp 44) (.const (.int .i64 50)), none⟩])
 (.cond (.tmp 45)
 (.seq
 (.ops [
 ⟨(some 8), .move (.const (.bool false)), none⟩])
 .ret)
 .skip))
 (.seq
 (.draw 0 [
 ⟨0, ⟨(some 46), .move (.tmp 0), none⟩, [], 0⟩,
 ⟨1, ⟨(some 47), .move (.tmp 9), none⟩, [], 0⟩,
 ⟨2, ⟨(some 48), .move (.tmp 0), none⟩, [], 0⟩,
 ⟨3, ⟨(some 49), .move (.tmp 9), none⟩, [], 0⟩,
 ⟨4, ⟨(some 50), .bin .sub (.tmp 49) (.const (.int .i64 1)), none⟩, [3], 0⟩,
 ⟨5, ⟨(some 51), .move (.tmp 0), none⟩, [], 0⟩,
 ⟨6, ⟨(some 52), .move (.tmp 9), none⟩, [], 0⟩,
 ⟨7, ⟨(some 53), .bin .sub (.tmp 52) (.const (.int .i64 1)), none⟩, [6], 0⟩,
 ⟨8, ⟨(some 54), .idxSl (.tmp 51) (.tmp 53) 6, none⟩, [5, 7, 6], 0⟩,
 ⟨9, ⟨(some 55), .load 6 true (.tmp 54), none⟩, [8, 5, 7, 6], 0⟩,
 ⟨10, ⟨(some 56), .move (.tmp 0), none⟩, [], 0⟩,
 ⟨11, ⟨(some 57), .move (.tmp 9), none⟩, [], 0⟩,
 ⟨12, ⟨(some 58), .idxSl (.tmp 56) (.tmp 57) 6, none⟩, [10, 11], 0⟩,
 ⟨13, ⟨(some 59), .load 6 true (.tmp 58), none⟩, [12, 10, 11], 0⟩,
 ⟨14, ⟨(some 60), .idxSl (.tmp 46) (.tmp 47) 6, none⟩, [0, 1, 5, 6, 7, 8, 9, 13, 12, 10, 11], 0⟩,
 ⟨15, ⟨none, .store 6 (.tmp 60) (.tmp 55), none⟩, [14, 0, 1, 5, 6, 7, 8, 9, 13, 12, 10, 11], 0⟩,
 ⟨16, ⟨(some 61), .idxSl (.tmp 48) (.tmp 50) 6, none⟩, [2, 4, 3, 0, 1, 5, 6, 7, 8, 9, 10, 11, 12, 13, 14, 15], 0⟩,
 ⟨17, ⟨none, .store 6 (.tmp 61) (.tmp 59), none⟩, [16, 2, 4, 3, 0, 1, 5, 6, 7, 8, 9, 10, 11, 12, 13, 14, 15], 0⟩])
 (.seq
 (.seq
 (.ops [
 ⟨(some 62), .move (.tmp 9), none⟩,
 ⟨(some 63), .move (.tmp 1), none⟩,
 ⟨(some 64), .bin .sub (.tmp 62) (.tmp 63), none⟩,
 ⟨(some 65), .bin .geq (.tmp 64) (.const (.int .i64 2)), none⟩])
 (.cond (.tmp 65)
 (.seq
 (.ops [
 ⟨(some 66), .move (.tmp 9), none⟩,
 ⟨(some 67), .bin .sub (.tmp 66) (.const (.int .i64 1)), none⟩,
 ⟨(some 11), .move (.tmp 67), none⟩])
 (.block 4
 (.loop
 (.seq
 (.seq
 (.ops [
 ⟨(some 68), .move (.tmp 11), none⟩,
 ⟨(some 69), .bin .geq (.tmp 68) (.const (.int .i64 1)), none⟩])
 (.cond (.tmp 69)
 .skip
 (.exit 4)))
 (.seq
 (.block 5
 (.seq
 (.seq
 (.draw 0 [
 ⟨0, ⟨(some 72), .move (.tmp 3), none⟩, [], 0⟩,
 ⟨1, ⟨(some 73), .move (.tmp 0), none⟩, [], 0⟩,
 ⟨2, ⟨(some 74), .move (.tmp 11), none⟩, [], 0⟩,
 ⟨3, ⟨(some 75), .idxSl (.tmp 73) (.tmp 74) 6, none⟩, [1, 2], 0⟩,
 ⟨4, ⟨(some 76), .load 6 true (.tmp 75), none⟩, [3, 1, 2], 0⟩,
 ⟨5, ⟨(some 77), .move (.tmp 0), none⟩, [], 0⟩,
 ⟨6, ⟨(some 78), .move (.tmp 11), none⟩, [], 0⟩,
 ⟨7, ⟨(some 79), .bin .sub (.tmp 78) (.const (.int .i64 1)), none⟩, [6], 0⟩,
 ⟨8, ⟨(some 80), .idxSl (.tmp 77) (.tmp 79) 6, none⟩, [5, 7, 6], 0⟩,
 ⟨9, ⟨(some 81), .load 6 true (.tmp 80), none⟩, [8, 5, 7, 6], 0⟩,
 ⟨10, ⟨(some 82), .callv (.tmp 72) [(.tmp 76), (.tmp 81)], none⟩, [0, 4, 3, 1, 2, 9, 8, 5, 7, 6], 0⟩,
 ⟨11, ⟨(some 83), .bin .lss (.tmp 82) (.const (.int .i64 0)), none⟩, [10, 0, 4, 3, 1, 2, 9, 8, 5, 7, 6], 0⟩,
 ⟨12, ⟨(some 84), .un .not (.tmp 83), none⟩, [11, 10, 0, 4, 3, 1, 2, 9, 8, 5, 7, 6], 0⟩])
 (.cond (.tmp 84)
 (.exit 4)
 .skip))
 (.draw 0 [
 ⟨0, ⟨(some 85), .move (.tmp 0), none⟩, [], 0⟩,
 ⟨1, ⟨(some 86), .move (.tmp 11), none⟩, [], 0⟩,
 ⟨2, ⟨(some 87), .move (.tmp 0), none⟩, [], 0⟩,
 ⟨3, ⟨(some 88), .move (.tmp 11), none⟩, [], 0⟩,
 ⟨4, ⟨(some 89), .bin .sub (.tmp 88) (.const (.int .i64 1)), none⟩, [3], 0⟩,
 ⟨5, ⟨(some 90), .move (.tmp 0), none⟩, [], 0⟩,
 ⟨6, ⟨(some 91), .move (.tmp 11), none⟩, [], 0⟩,
 ⟨7, ⟨(some 92), .bin .sub (.tmp 91) (.const (.int .i64 1)), none⟩, [6], 0⟩,
 ⟨8, ⟨(some 93), .idxSl (.tmp 90) (.tmp 92) 6, none⟩, [5, 7, 6], 0⟩,
 ⟨9, ⟨(some 94), .load 6 true (.tmp 93), none⟩, [8, 5, 7, 6], 0⟩,
 ⟨10, ⟨(some 95), .move (.tmp 0), none⟩, [], 0⟩,
 ⟨11, ⟨(some 96), .move (.tmp 11), none⟩, [], 0⟩,
 ⟨12, ⟨(some 97), .idxSl (.tmp 95) (.tmp 96) 6, none⟩, [10, 11], 0⟩,
 ⟨13, ⟨(some 98), .load 6 true (.tmp 97), none⟩, [12, 10, 11], 0⟩,
 ⟨14, ⟨(some 99), .idxSl (.tmp 85) (.tmp 86) 6, none⟩, [0, 1, 5, 6, 7, 8, 9, 13, 12, 10, 11], 0⟩,
 ⟨15, ⟨none, .store 6 (.tmp 99) (.tmp 94), none⟩, [14, 0, 1, 5, 6, 7, 8, 9, 13, 12, 10, 11], 0⟩,
 ⟨16, ⟨(some 100), .idxSl (.tmp 87) (.tmp 89) 6, none⟩, [2, 4, 3, 0, 1, 5, 6, 7, 8, 9, 10, 11, 12, 13, 14, 15], 0⟩,
 ⟨17, ⟨none, .store 6 (.tmp 100) (.tmp 98), none⟩, [16, 2, 4, 3, 0, 1, 5, 6, 7, 8, 9, 10, 11, 12, 13, 14, 15], 0⟩])))
 (.ops [
 ⟨(some 70), .move (.tmp 11), none⟩,
 ⟨(some 71), .bin .sub (.tmp 70) (.const (.int .i64 1)), none⟩,
 ⟨(some 11), .move (.tmp 71), none⟩]))))))
 .skip))
 (.seq
 (.ops [
 ⟨(some 101), .move (.tmp 2), none⟩,
 ⟨(some 102), .move (.tmp 9), none⟩,
 ⟨(some 103), .bin .sub (.tmp 101) (.tmp 102), none⟩,
 ⟨(some 104), .bin .geq (.tmp 103) (.const (.int .i64 2)), none⟩])
 (.cond (.tmp 104)
 (.seq
 (.ops [
 ⟨(some 105), .move (.tmp 9), none⟩,
 ⟨(some 106), .bin .add (.tmp 105) (.const (.int .i64 1)), none⟩,
 ⟨(some 12), .move (.tmp 106), none⟩])
 (.block 6
 (.loop
 (.seq
 (.seq
 (.ops [
 ⟨(some 107), .move (.tmp 12), none⟩,
 ⟨(some 108), .move (.tmp 2), none⟩,
 ⟨(some 109), .bin .lss (.tmp 107) (.tmp 108), none⟩])
 (.cond (.tmp 109)
 .skip
 (.exit 6)))
 (.seq
 (.block 7
 (.seq
 (.seq
 (.draw 0 [
 ⟨0, ⟨(some 112), .move (.tmp 3), none⟩, [], 0⟩,
 ⟨1, ⟨(some 113), .move (.tmp 0), none⟩, [], 0⟩,
 ⟨2, ⟨(some 114), .move (.tmp 12), none⟩, [], 0⟩,
 ⟨3, ⟨(some 115), .idxSl (.tmp 113) (.tmp 114) 6, none⟩, [1, 2], 0⟩,
 ⟨4, ⟨(some 116), .load 6 true (.tmp 115), none⟩, [3, 1, 2], 0⟩,
 ⟨5, ⟨(some 117), .move (.tmp 0), none⟩, [], 0⟩,
 ⟨6, ⟨(some 118), .move (.tmp 12), none⟩, [], 0⟩,
 ⟨7, ⟨(some 119), .bin .sub (.tmp 118) (.const (.int .i64 1)), none⟩, [6], 0⟩,
 ⟨8, ⟨(some 120), .idxSl (.tmp 117) (.tmp 119) 6, none⟩, [5, 7, 6], 0⟩,
 ⟨9, ⟨(some 121), .load 6 true (.tmp 120), none⟩, [8, 5, 7, 6], 0⟩,
 ⟨10, ⟨(some 122), .callv (.tmp 112) [(.tmp 116), (.tmp 121)], none⟩, [0, 4, 3, 1, 2, 9, 8, 5, 7, 6], 0⟩,
 ⟨11, ⟨(some 123), .bin .lss (.tmp 122) (.const (.int .i64 0)), none⟩, [10, 0, 4, 3, 1, 2, 9, 8, 5, 7, 6], 0⟩,
 ⟨12, ⟨(some 124), .un .not (.tmp 123), none⟩, [11, 10, 0, 4, 3, 1, 2, 9, 8, 5, 7, 6], 0⟩])
 (.cond (.tmp 124)
 (.exit 6)
 .skip))
 (.draw 0 [
 ⟨0, ⟨(some 125), .move (.tmp 0), none⟩, [], 0⟩,
 ⟨1, ⟨(some 126), .move (.tmp 12), none⟩, [], 0⟩,
 ⟨2, ⟨(some 127), .move (.tmp 0), none⟩, [], 0⟩,
 ⟨3, ⟨(some 128), .move (.tmp 12), none⟩, [], 0⟩,
 ⟨4, ⟨(some 129), .bin .sub (.tmp 128) (.const (.int .i64 1)), none⟩, [3], 0⟩,
 ⟨5, ⟨(some 130), .move (.tmp 0), none⟩, [], 0⟩,
 ⟨6, ⟨(some 131), .move (.tmp 12), none⟩, [], 0⟩,
 ⟨7, ⟨(some 132), .bin .sub (.tmp 131) (.const (.int .i64 1)), none⟩, [6], 0⟩,
 ⟨8, ⟨(some 133), .idxSl (.tmp 130) (.tmp 132) 6, none⟩, [5, 7, 6], 0⟩,
 ⟨9, ⟨(some 134), .load 6 true (.tmp 133), none⟩, [8, 5, 7, 6], 0⟩,
 ⟨10, ⟨(some 135), .move (.tmp 0), none⟩, [], 0⟩,
 ⟨11, ⟨(some 136), .move (.tmp 12), none⟩, [], 0⟩,
 ⟨12, ⟨(some 137), .idxSl (.tmp 135) (.tmp 136) 6, none⟩, [10, 11], 0⟩,
 ⟨13, ⟨(some 138), .load 6 true (.tmp 137), none⟩, [12, 10, 11], 0⟩,
 ⟨14, ⟨(some 139), .idxSl (.tmp 125) (.tmp 126) 6, none⟩, [0, 1, 5, 6, 7, 8, 9, 13, 12, 10, 11], 0⟩,
 ⟨15, ⟨none, .store 6 (.tmp 139) (.tmp 134), none⟩, [14, 0, 1, 5, 6, 7, 8, 9, 13, 12, 10, 11], 0⟩,
 ⟨16, ⟨(some 140), .idxSl (.tmp 127) (.tmp 129) 6, none⟩, [2, 4, 3, 0, 1, 5, 6, 7, 8, 9, 10, 11, 12, 13, 14, 15], 0⟩,
 ⟨17, ⟨none, .store 6 (.tmp 140) (.tmp 138), none⟩, [16, 2, 4, 3, 0, 1, 5, 6, 7, 8, 9, 10, 11, 12, 13, 14, 15], 0⟩])))
 (.ops [
 ⟨(some 110), .move (.tmp 12), none⟩,
 ⟨(some 111), .bin .add (.tmp 110) (.const (.int .i64 1)), none⟩,
 ⟨(some 12), .move (.tmp 111), none⟩]))))))
 .skip))))))))
 (.ops [
 ⟨(some 17), .move (.tmp 10), none⟩,
 ⟨(some 18), .bin .add (.tmp 17) (.const (.int .i64 1)), none⟩,
 ⟨(some 10), .move (.tmp 18), none⟩]))))))
 (.seq
 (.ops [
 ⟨(some 8), .move (.const (.bool false)), none⟩])
 .ret))))⟩
theorem t60_ok : goodFn Try.prog 60 = true ∧ cfn Try.prog 60 = t60 := ⟨by kernel_rfl, by kernel_rfl⟩

/-- slices.partitionEqualCmpFunc[matchguard/refs.Count] -/
def t61 : NFn := ⟨90, [(.tmp 10)],
 (.seq
 (.ops [
 ⟨(some 10), .move (.const (.int .i64 0)), none⟩])
 (.seq
 (.draw 0 [
 ⟨0, ⟨(some 13), .move (.tmp 0), none⟩, [], 0⟩,
 ⟨1, ⟨(some 14), .move (.tmp 1), none⟩, [], 0⟩,
 ⟨2, ⟨(some 15), .move (.tmp 0), none⟩, [], 0⟩,
 ⟨3, ⟨(some 16), .move (.tmp 3), none⟩, [], 0⟩,
 ⟨4, ⟨(some 17), .move (.tmp 0), none⟩, [], 0⟩,
 ⟨5, ⟨(some 18), .move (.tmp 3), none⟩, [], 0⟩,
 ⟨6, ⟨(some 19), .idxSl (.tmp 17) (.tmp 18) 6, none⟩, [4, 5], 0⟩,
 ⟨7, ⟨(some 20), .load 6 true (.tmp 19), none⟩, [6, 4, 5], 0⟩,
 ⟨8, ⟨(some 21), .move (.tmp 0), none⟩, [], 0⟩,
 ⟨9, ⟨(some 22), .move (.tmp 1), none⟩, [], 0⟩,
 ⟨10, ⟨(some 23), .idxSl (.tmp 21) (.tmp 22) 6, none⟩, [8, 9], 0⟩,
 ⟨11, ⟨(some 24), .load 6 true (.tmp 23), none⟩, [10, 8, 9], 0⟩,
 ⟨12, ⟨(some 25), .idxSl (.tmp 13) (.tmp 14) 6, none⟩, [0, 1, 4, 5, 6, 7, 11, 10, 8, 9], 0⟩,
 ⟨13, ⟨none, .store 6 (.tmp 25) (.tmp 20), none⟩, [12, 0, 1, 4, 5, 6, 7, 11, 10, 8, 9], 0⟩,
 ⟨14, ⟨(some 26), .idxSl (.tmp 15) (.tmp 16) 6, none⟩, [2, 3, 0, 1, 4, 5, 6, 7, 8, 9, 10, 11, 12, 13], 0⟩,
 ⟨15, ⟨none, .store 6 (.tmp 26) (.tmp 24), none⟩, [14, 2, 3, 0, 1, 4, 5, 6, 7, 8, 9, 10, 11, 12, 13], 0⟩])
 (.seq
 (.ops [
 ⟨(some 27), .move (.tmp 1), none⟩,
 ⟨(some 28), .bin .add (.tmp 27) (.const (.int .i64 1)), none⟩,
 ⟨(some 29), .move (.tmp 2), none⟩,
 ⟨(some 30), .bin .sub (.tmp 29) (.const (.int .i64 1)), none⟩,
 ⟨(some 11), .move (.tmp 28), none⟩,
 ⟨(some 12), .move (.tmp 30), none⟩])
 (.seq
 (.block 0
 (.loop
 (.block 1
 (.seq
 (.block 2
 (.loop
 (.seq
 (.seq
 (.draw 0 [
 ⟨0, ⟨(some 31), .move (.tmp 11), none⟩, [], 0⟩,
 ⟨1, ⟨(some 32), .move (.tmp 12), none⟩, [], 0⟩,
 ⟨2, ⟨(some 33), .bin .leq (.tmp 31) (.tmp 32), none⟩, [0, 1], 0⟩,
 ⟨3, ⟨(some 34), .move (.tmp 33), none⟩, [2, 0, 1], 0⟩,
 ⟨4, ⟨(some 35), .move (.tmp 4), (some (34, true))⟩, [3, 2, 0, 1], 0⟩,
 ⟨5, ⟨(some 36), .move (.tmp 0), (some (34, true))⟩, [3, 2, 0, 1], 0⟩,
 ⟨6, ⟨(some 37), .move (.tmp 1), (some (34, true))⟩, [3, 2, 0, 1], 0⟩,
 ⟨7, ⟨(some 38), .idxSl (.tmp 36) (.tmp 37) 6, (some (34, true))⟩, [5, 3, 2, 0, 1, 6], 0⟩,
 ⟨8, ⟨(some 39), .load 6 true (.tmp 38), (some (34, true))⟩, [7, 5, 3, 2, 0, 1, 6], 0⟩,
 ⟨9, ⟨(some 40), .move (.tmp 0), (some (34, true))⟩, [3, 2, 0, 1], 0⟩,
 ⟨10, ⟨(some 41), .move (.tmp 11), (some (34, true))⟩, [3, 2, 0, 1], 0⟩,
 ⟨11, ⟨(some 42), .idxSl (.tmp 40) (.tmp 41) 6, (some (34, true))⟩, [9, 3, 2, 0, 1, 10], 0⟩,
 ⟨12, ⟨(some 43), .load 6 true (.tmp 42), (some (34, true))⟩, [11, 9, 3, 2, 0, 1, 10], 0⟩,
 ⟨13, ⟨(some 44), .callv (.tmp 35) [(.tmp 39), (.tmp 43)], (some (34, true))⟩, [4, 3, 2, 0, 1, 8, 7, 5, 6, 12, 11, 9, 10], 0⟩,
 ⟨14, ⟨(some 45), .bin .lss (.tmp 44) (.const (.int .i64 0)), (some (34, true))⟩, [13, 4, 3, 2, 0, 1, 8, 7, 5, 6, 12, 11, 9, 10], 0⟩,
 ⟨15, ⟨(some 46), .un .not (.tmp 45), (some (34, true))⟩, [14, 13, 4, 3, 2, 0, 1, 8, 7, 5, 6, 12, 11, 9, 10], 0⟩,
 ⟨16, ⟨(some 47), .pick (.tmp 34) (.tmp 46) (.const (.bool false)), none⟩, [3, 2, 0, 1, 15, 14, 13, 4, 8, 7, 5, 6, 12, 11, 9, 10], 0⟩])
 (.cond (.tmp 47)
 .skip
 (.exit 2)))
 (.block 3
 (.ops [
 ⟨(some 48), .move (.tmp 11), none⟩,
 ⟨(some 49), .bin .add (.tmp 48) (.const (.int .i64 1)), none⟩,
 ⟨(some 11), .move (.tmp 49), none⟩])))))
 (.seq
 (.block 4
 (.loop
 (.seq
 (.seq
 (.draw 0 [
 ⟨0, ⟨(some 50), .move (.tmp 11), none⟩, [], 0⟩,
 ⟨1, ⟨(some 51), .move (.tmp 12), none⟩, [], 0⟩,
 ⟨2, ⟨(some 52), .bin .leq (.tmp 50) (.tmp 51), none⟩, [0, 1], 0⟩,
 ⟨3, ⟨(some 53), .move (.tmp 52), none⟩, [2, 0, 1], 0⟩,
 ⟨4, ⟨(some 54), .move (.tmp 4), (some (53, true))⟩, [3, 2, 0, 1], 0⟩,
 ⟨5, ⟨(some 55), .move (.tmp 0), (some (53, true))⟩, [3, 2, 0, 1], 0⟩,
 ⟨6, ⟨(some 56), .move (.tmp 1), (some (53, true))⟩, [3, 2, 0, 1], 0⟩,
 ⟨7, ⟨(some 57), .idxSl (.tmp 55) (.tmp 56) 6, (some (53, true))⟩, [5, 3, 2, 0, 1, 6], 0⟩,
 ⟨8, ⟨(some 58), .load 6 true (.tmp 57), (some (53, true))⟩, [7, 5, 3, 2, 0, 1, 6], 0⟩,
 ⟨9, ⟨(some 59), .move (.tmp 0), (some (53, true))⟩, [3, 2, 0, 1], 0⟩,
 ⟨10, ⟨(some 60), .move (.tmp 12), (some (53, true))⟩, [3, 2, 0, 1], 0⟩,
 ⟨11, ⟨(some 61), .idxSl (.tmp 59) (.tmp 60) 6, (some (53, true))⟩, [9, 3, 2, 0, 1, 10], 0⟩,
 ⟨12, ⟨(some 62), .load 6 true (.tmp 61), (some (53, true))⟩, [11, 9, 3, 2, 0, 1, 10], 0⟩,
 ⟨13, ⟨(some 63), .callv (.tmp 54) [(.tmp 58), (.tmp 62)], (some (53, true))⟩, [4, 3, 2, 0, 1, 8, 7, 5, 6, 12, 11, 9, 10], 0⟩,
 ⟨14, ⟨(some 64), .bin .lss (.tmp 63) (.const (.int .i64 0)), (some (53, true))⟩, [13, 4, 3, 2, 0, 1, 8, 7, 5, 6, 12, 11, 9, 10], 0⟩,
 ⟨15, ⟨(some 65), .pick (.tmp 53) (.tmp 64) (.const (.bool false)), none⟩, [3, 2, 0, 1, 14, 13, 4, 8, 7, 5, 6, 12, 11, 9, 10], 0⟩])
 (.cond (.tmp 65)
 .skip
 (.exit 4)))
 (.block 5
 (.ops [
 ⟨(some 66), .move (.tmp 12), none⟩,
 ⟨(some 67), .bin .sub (.tmp 66) (.const (.int .i64 1)), none⟩,
 ⟨(some 12), .move (.tmp 67), none⟩])))))
 (.seq
 (.seq
 (.ops [
 ⟨(some 68), .move (.tmp 11), none⟩,
 ⟨(some 69), .move (.tmp 12), none⟩,
 ⟨(some 70), .bin .gtr (.tmp 68) (.tmp 69), none⟩])
 (.cond (.tmp 70)
 (.exit 0)
 .skip))
 (.seq
 (.draw 0 [
 ⟨0, ⟨(some 71), .move (.tmp 0), none⟩, [], 0⟩,
 ⟨1, ⟨(some 72), .move (.tmp 11), none⟩, [], 0⟩,
 ⟨2, ⟨(some 73), .move (.tmp 0), none⟩, [], 0⟩,
 ⟨3, ⟨(some 74), .move (.tmp 12), none⟩, [], 0⟩,
 ⟨4, ⟨(some 75), .move (.tmp 0), none⟩, [], 0⟩,
 ⟨5, ⟨(some 76), .move (.tmp 12), none⟩, [], 0⟩,
 ⟨6, ⟨(some 77), .idxSl (.tmp 75) (.tmp 76) 6, none⟩, [4, 5], 0⟩,
 ⟨7, ⟨(some 78), .load 6 true (.tmp 77), none⟩, [6, 4, 5], 0⟩,
 ⟨8, ⟨(some 79), .move (.tmp 0), none⟩, [], 0⟩,
 ⟨9, ⟨(some 80), .move (.tmp 11), none⟩, [], 0⟩,
 ⟨10, ⟨(some 81), .idxSl (.tmp 79) (.tmp 80) 6, none⟩, [8, 9], 0⟩,
 ⟨11, ⟨(some 82), .load 6 true (.tmp 81), none⟩, [10, 8, 9], 0⟩,
 ⟨12, ⟨(some 83), .idxSl (.tmp 71) (.tmp 72) 6, none⟩, [0, 1, 4, 5, 6, 7, 11, 10, 8, 9], 0⟩,
 ⟨13, ⟨none, .store 6 (.tmp 83) (.tmp 78), none⟩, [12, 0, 1, 4, 5, 6, 7, 11, 10, 8, 9], 0⟩,
 ⟨14, ⟨(some 84), .idxSl (.tmp 73) (.tmp 74) 6, none⟩, [2, 3, 0, 1, 4, 5, 6, 7, 8, 9, 10, 11, 12, 13], 0⟩,
 ⟨15, ⟨none, .store 6 (.tmp 84) (.tmp 82), none⟩, [14, 2, 3, 0, 1, 4, 5, 6, 7, 8, 9, 10, 11, 12, 13], 0⟩])
 (.seq
 (.ops [
 ⟨(some 85), .move (.tmp 11), none⟩,
 ⟨(some 86), .bin .add (.tmp 85) (.const (.int .i64 1)), none⟩,
 ⟨(some 11), .move (.tmp 86), none⟩])
 (.ops [
 ⟨(some 87), .move (.tmp 12), none⟩,
 ⟨(some 88), .bin .sub (.tmp 87) (.const (.int .i64 1)), none⟩,
 ⟨(some 12), .move (.tmp 88), none⟩])))))))))
 (.seq
 (.ops [
 ⟨(some 89), .move (.tmp 11), none⟩,
 ⟨(some 10), .move (.tmp 89), none⟩])
 .ret)))))⟩
theorem t61_ok : goodFn Try.prog 61 = true ∧ cfn Try.prog 61 = t61 := ⟨by kernel_rfl, by kernel_rfl⟩

/-- slices.partitionCmpFunc[matchguard/refs.Count] -/
def t62 : NFn := ⟨178, [(.tmp 10), (.tmp 11)],
 (.seq
 (.ops [
 ⟨(some 10), .move (.const (.int .i64 0)), none⟩,
 ⟨(some 11), .move (.const (.bool false)), none⟩])
 (.seq
 (.draw 0 [
 ⟨0, ⟨(some 14), .move (.tmp 0), none⟩, [], 0⟩,
 ⟨1, ⟨(some 15), .move (.tmp 1), none⟩, [], 0⟩,
 ⟨2, ⟨(some 16), .move (.tmp 0), none⟩, [], 0⟩,
 ⟨3, ⟨(some 17), .move (.tmp 3), none⟩, [], 0⟩,
 ⟨4, ⟨(some 18), .move (.tmp 0), none⟩, [], 0⟩,
 ⟨5, ⟨(some 19), .move (.tmp 3), none⟩, [], 0⟩,
 ⟨6, ⟨(some 20), .idxSl (.tmp 18) (.tmp 19) 6, none⟩, [4, 5], 0⟩,
 ⟨7, ⟨(some 21), .load 6 true (.tmp 20), none⟩, [6, 4, 5], 0⟩,
 ⟨8, ⟨(some 22), .move (.tmp 0), none⟩, [], 0⟩,
 ⟨9, ⟨(some 23), .move (.tmp 1), none⟩, [], 0⟩,
 ⟨10, ⟨(some 24), .idxSl (.tmp 22) (.tmp 23) 6, none⟩, [8, 9], 0⟩,
 ⟨11, ⟨(some 25), .load 6 true (.tmp 24), none⟩, [10, 8, 9], 0⟩,
 ⟨12, ⟨(some 26), .idxSl (.tmp 14) (.tmp 15) 6, none⟩, [0, 1, 4, 5, 6, 7, 11, 10, 8, 9], 0⟩,
 ⟨13, ⟨none, .store 6 (.tmp 26) (.tmp 21), none⟩, [12, 0, 1, 4, 5, 6, 7, 11, 10, 8, 9], 0⟩,
 ⟨14, ⟨(some 27), .idxSl (.tmp 16) (.tmp 17) 6, none⟩, [2, 3, 0, 1, 4, 5, 6, 7, 8, 9, 10, 11, 12, 13], 0⟩,
 ⟨15, ⟨none, .store 6 (.tmp 27) (.tmp 25), none⟩, [14, 2, 3, 0, 1, 4, 5, 6, 7, 8, 9, 10, 11, 12, 13], 0⟩])
 (.seq
 (.ops [
 ⟨(some 28), .move (.tmp 1), none⟩,
 ⟨(some 29), .bin .add (.tmp 28) (.const (.int .i64 1)), none⟩,
 ⟨(some 30), .move (.tmp 2), none⟩,
 ⟨(some 31), .bin .sub (.tmp 30) (.const (.int .i64 1)), none⟩,
 ⟨(some 12), .move (.tmp 29), none⟩,
 ⟨(some 13), .move (.tmp 31), none⟩])
 (.seq
 (.block 0
 (.loop
 (.seq
 (.seq
 (.draw 0 [
 ⟨0, ⟨(some 32), .move (.tmp 12), none⟩, [], 0⟩,
 ⟨1, ⟨(some 33), .move (.tmp 13), none⟩, [], 0⟩,
 ⟨2, ⟨(some 34), .bin .leq (.tmp 32) (.tmp 33), none⟩, [0, 1], 0⟩,
 ⟨3, ⟨(some 35), .move (.tmp 34), none⟩, [2, 0, 1], 0⟩,
 ⟨4, ⟨(some 36), .move (.tmp 4), (some (35, true))⟩, [3, 2, 0, 1], 0⟩,
 ⟨5, ⟨(some 37), .move (.tmp 0), (some (35, true))⟩, [3, 2, 0, 1], 0⟩,
 ⟨6, ⟨(some 38), .move (.tmp 12), (some (35, true))⟩, [3, 2, 0, 1], 0⟩,
 ⟨7, ⟨(some 39), .idxSl (.tmp 37) (.tmp 38) 6, (some (35, true))⟩, [5, 3, 2, 0, 1, 6], 0⟩,
 ⟨8, ⟨(some 40), .load 6 true (.tmp 39), (some (35, true))⟩, [7, 5, 3, 2, 0, 1, 6], 0⟩,
 ⟨9, ⟨(some 41), .move (.tmp 0), (some (35, true))⟩, [3, 2, 0, 1], 0⟩,
 ⟨10, ⟨(some 42), .move (.tmp 1), (some (35, true))⟩, [3, 2, 0, 1], 0⟩,
 ⟨11, ⟨(some 43), .idxSl (.tmp 41) (.tmp 42) 6, (some (35, true))⟩, [9, 3, 2, 0, 1, 10], 0⟩,
 ⟨12, ⟨(some 44), .load 6 true (.tmp 43), (some (35, true))⟩, [11, 9, 3, 2, 0, 1, 10], 0⟩,
 ⟨13, ⟨(some 45), .callv (.tmp 36) [(.tmp 40), (.tmp 44)], (some (35, true))⟩, [4, 3, 2, 0, 1, 8, 7, 5, 6, 12, 11, 9, 10], 0⟩,
 ⟨14, ⟨(some 46), .bin .lss (.tmp 45) (.const (.int .i64 0)), (some (35, true))⟩, [13, 4, 3, 2, 0, 1, 8, 7, 5, 6, 12, 11, 9, 10], 0⟩,
 ⟨15, ⟨(some 47), .pick (.tmp 35) (.tmp 46) (.const (.bool false)), none⟩, [3, 2, 0, 1, 14, 13, 4, 8, 7, 5, 6, 12, 11, 9, 10], 0⟩])
 (.cond (.tmp 47)
 .skip
 (.exit 0)))
 (.block 1
 (.ops [
 ⟨(some 48), .move (.tmp 12), none⟩,
 ⟨(some 49), .bin .add (.tmp 48) (.const (.int .i64 1)), none⟩,
 ⟨(some 12), .move (.tmp 49), none⟩])))))
 (.seq
 (.block 2
 (.loop
 (.seq
 (.seq
 (.draw 0 [
 ⟨0, ⟨(some 50), .move (.tmp 12), none⟩, [], 0⟩,
 ⟨1, ⟨(some 51), .move (.tmp 13), none⟩, [], 0⟩,
 ⟨2, ⟨(some 52), .bin .leq (.tmp 50) (.tmp 51), none⟩, [0, 1], 0⟩,
 ⟨3, ⟨(some 53), .move (.tmp 52), none⟩, [2, 0, 1], 0⟩,
 ⟨4, ⟨(some 54), .move (.tmp 4), (some (53, true))⟩, [3, 2, 0, 1], 0⟩,
 ⟨5, ⟨(some 55), .move (.tmp 0), (some (53, true))⟩, [3, 2, 0, 1], 0⟩,
 ⟨6, ⟨(some 56), .move (.tmp 13), (some (53, true))⟩, [3, 2, 0, 1], 0⟩,
 ⟨7, ⟨(some 57), .idxSl (.tmp 55) (.tmp 56) 6, (some (53, true))⟩, [5, 3, 2, 0, 1, 6], 0⟩,
 ⟨8, ⟨(some 58), .load 6 true (.tmp 57), (some (53, true))⟩, [7, 5, 3, 2, 0, 1, 6], 0⟩,
 ⟨9, ⟨(some 59), .move (.tmp 0), (some (53, true))⟩, [3, 2, 0, 1], 0⟩,
 ⟨10, ⟨(some 60), .move (.tmp 1), (some (53, true))⟩, [3, 2, 0, 1], 0⟩,
 ⟨11, ⟨(some 61), .idxSl (.tmp 59) (.tmp 60) 6, (some (53, true))⟩, [9, 3, 2, 0, 1, 10], 0⟩,
 ⟨12, ⟨(some 62), .load 6 true (.tmp 61), (some (53, true))⟩, [11, 9, 3, 2, 0, 1, 10], 0⟩,
 ⟨13, ⟨(some 63), .callv (.tmp 54) [(.tmp 58), (.tmp 62)], (some (53, true))⟩, [4, 3, 2, 0, 1, 8, 7, 5, 6, 12, 11, 9, 10], 0⟩,
 ⟨14, ⟨(some 64), .bin .lss (.tmp 63) (.const (.int .i64 0)), (some (53, true))⟩, [13, 4, 3, 2, 0, 1, 8, 7, 5, 6, 12, 11, 9, 10], 0⟩,
 ⟨15, ⟨(some 65), .un .not (.tmp 64), (some (53, true))⟩, [14, 13, 4, 3, 2, 0, 1, 8, 7, 5, 6, 12, 11, 9, 10], 0⟩,
 ⟨16, ⟨(some 66), .pick (.tmp 53) (.tmp 65) (.const (.bool false)), none⟩, [3, 2, 0, 1, 15, 14, 13, 4, 8, 7, 5, 6, 12, 11, 9, 10], 0⟩])
 (.cond (.tmp 66)
 .skip
 (.exit 2)))
 (.block 3
 (.ops [
 ⟨(some 67), .move (.tmp 13), none⟩,
 ⟨(some 68), .bin .sub (.tmp 67) (.const (.int .i64 1)), none⟩,
 ⟨(some 13), .move (.tmp 68), none⟩])))))
 (.seq
 (.seq
 (.ops [
 ⟨(some 69), .move (.tmp 12), none⟩,
 ⟨(some 70), .move (.tmp 13), none⟩,
 ⟨(some 71), .bin .gtr (.tmp 69) (.tmp 70), none⟩])
 (.cond (.tmp 71)
 (.seq
 (.draw 0 [
 ⟨0, ⟨(some 72), .move (.tmp 0), none⟩, [], 0⟩,
 ⟨1, ⟨(some 73), .move (.tmp 13), none⟩, [], 0⟩,
 ⟨2, ⟨(some 74), .move (.tmp 0), none⟩, [], 0⟩,
 ⟨3, ⟨(some 75), .move (.tmp 1), none⟩, [], 0⟩,
 ⟨4, ⟨(some 76), .move (.tmp 0), none⟩, [], 0⟩,
 ⟨5, ⟨(some 77), .move (.tmp 1), none⟩, [], 0⟩,
 ⟨6, ⟨(some 78), .idxSl (.tmp 76) (.tmp 77) 6, none⟩, [4, 5], 0⟩,
 ⟨7, ⟨(some 79), .load 6 true (.tmp 78), none⟩, [6, 4, 5], 0⟩,
 ⟨8, ⟨(some 80), .move (.tmp 0), none⟩, [], 0⟩,
 ⟨9, ⟨(some 81), .move (.tmp 13), none⟩, [], 0⟩,
 ⟨10, ⟨(some 82), .idxSl (.tmp 80) (.tmp 81) 6, none⟩, [8, 9], 0⟩,
 ⟨11, ⟨(some 83), .load 6 true (.tmp 82), none⟩, [10, 8, 9], 0⟩,
 ⟨12, ⟨(some 84), .idxSl (.tmp 72) (.tmp 73) 6, none⟩, [0, 1, 4, 5, 6, 7, 11, 10, 8, 9], 0⟩,
 ⟨13, ⟨none, .store 6 (.tmp 84) (.tmp 79), none⟩, [12, 0, 1, 4, 5, 6, 7, 11, 10, 8, 9], 0⟩,
 ⟨14, ⟨(some 85), .idxSl (.tmp 74) (.tmp 75) 6, none⟩, [2, 3, 0, 1, 4, 5, 6, 7, 8, 9, 10, 11, 12, 13], 0⟩,
 ⟨15, ⟨none, .store 6 (.tmp 85) (.tmp 83), none⟩, [14, 2, 3, 0, 1, 4, 5, 6, 7, 8, 9, 10, 11, 12, 13], 0⟩])
 (.seq
 (.ops [
 ⟨(some 86), .move (.tmp 13), none⟩,
 ⟨(some 10), .move (.tmp 86), none⟩,
 ⟨(some 11), .move (.const (.bool true)), none⟩])
 .ret))
 .skip))
 (.seq
 (.draw 0 [
 ⟨0, ⟨(some 87), .move (.tmp 0), none⟩, [], 0⟩,
 ⟨1, ⟨(some 88), .move (.tmp 12), none⟩, [], 0⟩,
 ⟨2, ⟨(some 89), .move (.tmp 0), none⟩, [], 0⟩,
 ⟨3, ⟨(some 90), .move (.tmp 13), none⟩, [], 0⟩,
 ⟨4, ⟨(some 91), .move (.tmp 0), none⟩, [], 0⟩,
 ⟨5, ⟨(some 92), .move (.tmp 13), none⟩, [], 0⟩,
 ⟨6, ⟨(some 93), .idxSl (.tmp 91) (.tmp 92) 6, none⟩, [4, 5], 0⟩,
 ⟨7, ⟨(some 94), .load 6 true (.tmp 93), none⟩, [6, 4, 5], 0⟩,
 ⟨8, ⟨(some 95), .move (.tmp 0), none⟩, [], 0⟩,
 ⟨9, ⟨(some 96), .move (.tmp 12), none⟩, [], 0⟩,
 ⟨10, ⟨(some 97), .idxSl (.tmp 95) (.tmp 96) 6, none⟩, [8, 9], 0⟩,
 ⟨11, ⟨(some 98), .load 6 true (.tmp 97), none⟩, [10, 8, 9], 0⟩,
 ⟨12, ⟨(some 99), .idxSl (.tmp 87) (.tmp 88) 6, none⟩, [0, 1, 4, 5, 6, 7, 11, 10, 8, 9], 0⟩,
 ⟨13, ⟨none, .store 6 (.tmp 99) (.tmp 94), none⟩, [12, 0, 1, 4, 5, 6, 7, 11, 10, 8, 9], 0⟩,
 ⟨14, ⟨(some 100), .idxSl (.tmp 89) (.tmp 90) 6, none⟩, [2, 3, 0, 1, 4, 5, 6, 7, 8, 9, 10, 11, 12, 13], 0⟩,
 ⟨15, ⟨none, .store 6 (.tmp 100) (.tmp 98), none⟩, [14, 2, 3, 0, 1, 4, 5, 6, 7, 8, 9, 10, 11, 12, 13], 0⟩])
 (.seq
 (.ops [
 ⟨(some 101), .move (.tmp 12), none⟩,
 ⟨(some 102), .bin .add (.tmp 101) (.const (.int .i64 1)), none⟩,
 ⟨(some 12), .move (.tmp 102), none⟩])
 (.seq
 (.ops [
 ⟨(some 103), .move (.tmp 13), none⟩,
 ⟨(some 104), .bin .sub (.tmp 103) (.const (.int .i64 1)), none⟩,
 ⟨(some 13), .move (.tmp 104), none⟩])
 (.seq
 (.block 4
 (.loop
 (.block 5
 (.seq
 (.block 6
 (.loop
 (.seq
 (.seq
 (.draw 0 [
 ⟨0, ⟨(some 105), .move (.tmp 12), none⟩, [], 0⟩,
 ⟨1, ⟨(some 106), .move (.tmp 13), none⟩, [], 0⟩,
 ⟨2, ⟨(some 107), .bin .leq (.tmp 105) (.tmp 106), none⟩, [0, 1], 0⟩,
 ⟨3, ⟨(some 108), .move (.tmp 107), none⟩, [2, 0, 1], 0⟩,
 ⟨4, ⟨(some 109), .move (.tmp 4), (some (108, true))⟩, [3, 2, 0, 1], 0⟩,
 ⟨5, ⟨(some 110), .move (.tmp 0), (some (108, true))⟩, [3, 2, 0, 1], 0⟩,
 ⟨6, ⟨(some 111), .move (.tmp 12), (some (108, true))⟩, [3, 2, 0, 1], 0⟩,
 ⟨7, ⟨(some 112), .idxSl (.tmp 110) (.tmp 111) 6, (some (108, true))⟩, [5, 3, 2, 0, 1, 6], 0⟩,
 ⟨8, ⟨(some 113), .load 6 true (.tmp 112), (some (108, true))⟩, [7, 5, 3, 2, 0, 1, 6], 0⟩,
 ⟨9, ⟨(some 114), .move (.tmp 0), (some (108, true))⟩, [3, 2, 0, 1], 0⟩,
 ⟨10, ⟨(some 115), .move (.tmp 1), (some (108, true))⟩, [3, 2, 0, 1], 0⟩,
 ⟨11, ⟨(some 116), .idxSl (.tmp 114) (.tmp 115) 6, (some (108, true))⟩, [9, 3, 2, 0, 1, 10], 0⟩,
 ⟨12, ⟨(some 117), .load 6 true (.tmp 116), (some (108, true))⟩, [11, 9, 3, 2, 0, 1, 10], 0⟩,
 ⟨13, ⟨(some 118), .callv (.tmp 109) [(.tmp 113), (.tmp 117)], (some (108, true))⟩, [4, 3, 2, 0, 1, 8, 7, 5, 6, 12, 11, 9, 10], 0⟩,
 ⟨14, ⟨(some 119), .bin .lss (.tmp 118) (.const (.int .i64 0)), (some (108, true))⟩, [13, 4, 3, 2, 0, 1, 8, 7, 5, 6, 12, 11, 9, 10], 0⟩,
 ⟨15, ⟨(some 120), .pick (.tmp 108) (.tmp 119) (.const (.bool false)), none⟩, [3, 2, 0, 1, 14, 13, 4, 8, 7, 5, 6, 12, 11, 9, 10], 0⟩])
 (.cond (.tmp 120)
 .skip
 (.exit 6)))
 (.block 7
 (.ops [
 ⟨(some 121), .move (.tmp 12), none⟩,
 ⟨(some 122), .bin .add (.tmp 121) (.const (.int .i64 1)), none⟩,
 ⟨(some 12), .move (.tmp 122), none⟩])))))
 (.seq
 (.block 8
 (.loop
 (.seq
 (.seq
 (.draw 0 [
 ⟨0, ⟨(some 123), .move (.tmp 12), none⟩, [], 0⟩,
 ⟨1, ⟨(some 124), .move (.tmp 13), none⟩, [], 0⟩,
 ⟨2, ⟨(some 125), .bin .leq (.tmp 123) (.tmp 124), none⟩, [0, 1], 0⟩,
 ⟨3, ⟨(some 126), .move (.tmp 125), none⟩, [2, 0, 1], 0⟩,
 ⟨4, ⟨(some 127), .move (.tmp 4), (some (126, true))⟩, [3, 2, 0, 1], 0⟩,
 ⟨5, ⟨(some 128), .move (.tmp 0), (some (126, true))⟩, [3, 2, 0, 1], 0⟩,
 ⟨6, ⟨(some 129), .move (.tmp 13), (some (126, true))⟩, [3, 2, 0, 1], 0⟩,
 ⟨7, ⟨(some 130), .idxSl (.tmp 128) (.tmp 129) 6, (some (126, true))⟩, [5, 3, 2, 0, 1, 6], 0⟩,
 ⟨8, ⟨(some 131), .load 6 true (.tmp 130), (some (126, true))⟩, [7, 5, 3, 2, 0, 1, 6], 0⟩,
 ⟨9, ⟨(some 132), .move (.tmp 0), (some (126, true))⟩, [3, 2, 0, 1], 0⟩,
 ⟨10, ⟨(some 133), .move (.tmp 1), (some (126, true))⟩, [3, 2, 0, 1], 0⟩,
 ⟨11, ⟨(some 134), .idxSl (.tmp 132) (.tmp 133) 6, (some (126, true))⟩, [9, 3, 2, 0, 1, 10], 0⟩,
 ⟨12, ⟨(some 135), .load 6 true (.tmp 134), (some (126, true))⟩, [11, 9, 3, 2, 0, 1, 10], 0⟩,
 ⟨13, ⟨(some 136), .callv (.tmp 127) [(.tmp 131), (.tmp 135)], (some (126, true))⟩, [4, 3, 2, 0, 1, 8, 7, 5, 6, 12, 11, 9, 10], 0⟩,
 ⟨14, ⟨(some 137), .bin .lss (.tmp 136) (.const (.int .i64 0)), (some (126, true))⟩, [13, 4, 3, 2, 0, 1, 8, 7, 5, 6, 12, 11, 9, 10], 0⟩,
 ⟨15, ⟨(some 138), .un .not (.tmp 137), (some (126, true))⟩, [14, 13, 4, 3, 2, 0, 1, 8, 7, 5, 6, 12, 11, 9, 10], 0⟩,
 ⟨16, ⟨(some 139), .pick (.tmp 126) (.tmp 138) (.const (.bool false)), none⟩, [3, 2, 0, 1, 15, 14, 13, 4, 8, 7, 5, 6, 12, 11, 9, 10], 0⟩])
 (.cond (.tmp 139)
 .skip
 (.exit 8)))
 (.block 9
 (.ops [
 ⟨(some 140), .move (.tmp 13), none⟩,
 ⟨(some 141), .bin .sub (.tmp 140) (.const (.int .i64 1)), none⟩,
 ⟨(some 13), .move (.tmp 141), none⟩])))))
 (.seq
 (.seq
 (.ops [
 ⟨(some 142), .move (.tmp 12), none⟩,
 ⟨(some 143), .move (.tmp 13), none⟩,
 ⟨(some 144), .bin .gtr (.tmp 142) (.tmp 143), none⟩])
 (.cond (.tmp 144)
 (.exit 4)
 .skip))
 (.seq
 (.draw 0 [
 ⟨0, ⟨(some 145), .move (.tmp 0), none⟩, [], 0⟩,
 ⟨1, ⟨(some 146), .move (.tmp 12), none⟩, [], 0⟩,
 ⟨2, ⟨(some 147), .move (.tmp 0), none⟩, [], 0⟩,
 ⟨3, ⟨(some 148), .move (.tmp 13), none⟩, [], 0⟩,
 ⟨4, ⟨(some 149), .move (.tmp 0), none⟩, [], 0⟩,
 ⟨5, ⟨(some 150), .move (.tmp 13), none⟩, [], 0⟩,
 ⟨6, ⟨(some 151), .idxSl (.tmp 149) (.tmp 150) 6, none⟩, [4, 5], 0⟩,
 ⟨7, ⟨(some 152), .load 6 true (.tmp 151), none⟩, [6, 4, 5], 0⟩,
 ⟨8, ⟨(some 153), .move (.tmp 0), none⟩, [], 0⟩,
 ⟨9, ⟨(some 154), .move (.tmp 12), none⟩, [], 0⟩,
 ⟨10, ⟨(some 155), .idxSl (.tmp 153) (.tmp 154) 6, none⟩, [8, 9], 0⟩,
 ⟨11, ⟨(some 156), .load 6 true (.tmp 155), none⟩, [10, 8, 9], 0⟩,
 ⟨12, ⟨(some 157), .idxSl (.tmp 145) (.tmp 146) 6, none⟩, [0, 1, 4, 5, 6, 7, 11, 10, 8, 9], 0⟩,
 ⟨13, ⟨none, .store 6 (.tmp 157) (.tmp 152), none⟩, [12, 0, 1, 4, 5, 6, 7, 11, 10, 8, 9], 0⟩,
 ⟨14, ⟨(some 158), .idxSl (.tmp 147) (.tmp 148) 6, none⟩, [2, 3, 0, 1, 4, 5, 6, 7, 8, 9, 10, 11, 12, 13], 0⟩,
 ⟨15, ⟨none, .store 6 (.tmp 158) (.tmp 156), none⟩, [14, 2, 3, 0, 1, 4, 5, 6, 7, 8, 9, 10, 11, 12, 13], 0⟩])
 (.seq
 (.ops [
 ⟨(some 159), .move (.tmp 12), none⟩,
 ⟨(some 160), .bin .add (.tmp 159) (.const (.int .i64 1)), none⟩,
 ⟨(some 12), .move (.tmp 160), none⟩])
 (.ops [
 ⟨(some 161), .move (.tmp 13), none⟩,
 ⟨(some 162), .bin .sub (.tmp 161) (.const (.int .i64 1)), none⟩,
 ⟨(some 13), .move (.tmp 162), none⟩])))))))))
 (.seq
 (.draw 0 [
 ⟨0, ⟨(some 163), .move (.tmp 0), none⟩, [], 0⟩,
 ⟨1, ⟨(some 164), .move (.tmp 13), none⟩, [], 0⟩,
 ⟨2, ⟨(some 165), .move (.tmp 0), none⟩, [], 0⟩,
 ⟨3, ⟨(some 166), .move (.tmp 1), none⟩, [], 0⟩,
 ⟨4, ⟨(some 167), .move (.tmp 0), none⟩, [], 0⟩,
 ⟨5, ⟨(some 168), .move (.tmp 1), none⟩, [], 0⟩,
 ⟨6, ⟨(some 169), .idxSl (.tmp 167) (.tmp 168) 6, none⟩, [4, 5], 0⟩,
 ⟨7, ⟨(some 170), .load 6 true (.tmp 169), none⟩, [6, 4, 5], 0⟩,
 ⟨8, ⟨(some 171), .move (.tmp 0), none⟩, [], 0⟩,
 ⟨9, ⟨(some 172), .move (.tmp 13), none⟩, [], 0⟩,
 ⟨10, ⟨(some 173), .idxSl (.tmp 171) (.tmp 172) 6, none⟩, [8, 9], 0⟩,
 ⟨11, ⟨(some 174), .load 6 true (.tmp 173), none⟩, [10, 8, 9], 0⟩,
 ⟨12, ⟨(some 175), .idxSl (.tmp 163) (.tmp 164) 6, none⟩, [0, 1, 4, 5, 6, 7, 11, 10, 8, 9], 0⟩,
 ⟨13, ⟨none, .store 6 (.tmp 175) (.tmp 170), none⟩, [12, 0, 1, 4, 5, 6, 7, 11, 10, 8, 9], 0⟩,
 ⟨14, ⟨(some 176), .idxSl (.tmp 165) (.tmp 166) 6, none⟩, [2, 3, 0, 1, 4, 5, 6, 7, 8, 9, 10, 11, 12, 13], 0⟩,
 ⟨15, ⟨none, .store 6 (.tmp 176) (.tmp 174), none⟩, [14, 2, 3, 0, 1, 4, 5, 6, 7, 8, 9, 10, 11, 12, 13], 0⟩])
 (.seq
 (.ops [
 ⟨(some 177), .move (.tmp 13), none⟩,
 ⟨(some 10), .move (.tmp 177), none⟩,
 ⟨(some 11), .move (.const (.bool false)), none⟩])
 .ret))))))))))))⟩
theorem t62_ok : goodFn Try.prog 62 = true ∧ cfn Try.prog 62 = t62 := ⟨by kernel_rfl, by kernel_rfl⟩

/-- math/bits.Len32 -/
def t63 : NFn := ⟨19, [(.tmp 2)],
 (.seq
 (.ops [
 ⟨(some 2), .move (.const (.int .i64 0)), none⟩])
 (.seq
 (.seq
 (.ops [
 ⟨(some 3), .move (.tmp 0), none⟩,
 ⟨(some 4), .bin .geq (.tmp 3) (.const (.int .u32 65536)), none⟩])
 (.cond (.tmp 4)
 (.seq
 (.ops [
 ⟨(some 5), .move (.tmp 0), none⟩,
 ⟨(some 6), .bin .shr (.tmp 5) (.const (.int .u64 16)), none⟩,
 ⟨(some 0), .move (.tmp 6), none⟩])
 (.ops [
 ⟨(some 2), .move (.const (.int .i64 16)), none⟩]))
 .skip))
 (.seq
 (.seq
 (.ops [
 ⟨(some 7), .move (.tmp 0), none⟩,
 ⟨(some 8), .bin .geq (.tmp 7) (.const (.int .u32 256)), none⟩])
 (.cond (.tmp 8)
 (.seq
 (.ops [
 ⟨(some 9), .move (.tmp 0), none⟩,
 ⟨(some 10), .bin .shr (.tmp 9) (.const (.int .u64 8)), none⟩,
 ⟨(some 0), .move (.tmp 10), none⟩])
 (.ops [
 ⟨(some 11), .move (.tmp 2), none⟩,
 ⟨(some 12), .bin .add (.tmp 11) (.const (.int .i64 8)), none⟩,
 ⟨(some 2), .move (.tmp 12), none⟩]))
 .skip))
 (.seq
 (.ops [
 ⟨(some 13), .move (.tmp 2), none⟩,
 ⟨(some 14), .move (.tmp 0), none⟩,
 ⟨(some 15), .conv .u8 (.tmp 14), none⟩,
 ⟨(some 16), .strIdx (.const (.str ⟨#[0, 1, 2, 2, 3, 3, 3, 3, 4, 4, 4, 4, 4, 4, 4, 4, 5, 5, 5, 5, 5, 5, 5, 5, 5, 5, 5, 5, 5, 5, 5, 5, 6, 6, 6, 6, 6, 6, 6, 6, 6, 6, 6, 6, 6, 6, 6, 6, 6, 6, 6, 6, 6, 6, 6, 6, 6, 6, 6, 6, 6, 6, 6, 6, 7, 7, 7, 7, 7, 7, 7, 7, 7, 7, 7, 7, 7, 7, 7, 7, 7, 7, 7, 7, 7, 7, 7, 7, 7, 7, 7, 7, 7, 7, 7, 7, 7, 7, 7, 7, 7, 7, 7, 7, 7, 7, 7, 7, 7, 7, 7, 7, 7, 7, 7, 7, 7, 7, 7, 7, 7, 7, 7, 7, 7, 7, 7, 7, 8, 8, 8, 8, 8, 8, 8, 8, 8, 8, 8, 8, 8, 8, 8, 8, 8, 8, 8, 8, 8, 8, 8, 8, 8, 8, 8, 8, 8, 8, 8, 8, 8, 8, 8, 8, 8, 8, 8, 8, 8, 8, 8, 8, 8, 8, 8, 8, 8, 8, 8, 8, 8, 8, 8, 8, 8, 8, 8, 8, 8, 8, 8, 8, 8, 8, 8, 8, 8, 8, 8, 8, 8, 8, 8, 8, 8, 8, 8, 8, 8, 8, 8, 8, 8, 8, 8, 8, 8, 8, 8, 8, 8, 8, 8, 8, 8, 8, 8, 8, 8, 8, 8, 8, 8, 8, 8, 8, 8, 8, 8, 8, 8, 8, 8, 8, 8, 8, 8, 8, 8, 8, 8, 8, 8, 8, 8, 8]⟩)) (.tmp 15), none⟩,
 ⟨(some 17), .conv .i64 (.tmp 16), none⟩,
 ⟨(some 18), .bin .add (.tmp 13) (.tmp 17), none⟩,
 ⟨(some 2), .move (.tmp 18), none⟩])
 .ret))))⟩
theorem t63_ok : goodFn Try.prog 63 = true ∧ cfn Try.prog 63 = t63 := ⟨by kernel_rfl, by kernel_rfl⟩

/-- math/bits.Len64 -/
def t64 : NFn := ⟨25, [(.tmp 2)],
 (.seq
 (.ops [
 ⟨(some 2), .move (.const (.int .i64 0)), none⟩])
 (.seq
 (.seq
 (.ops [
 ⟨(some 3), .move (.tmp 0), none⟩,
 ⟨(some 4), .bin .geq (.tmp 3) (.const (.int .u64 4294967296)), none⟩])
 (.cond (.tmp 4)
 (.seq
 (.ops [
 ⟨(some 5), .move (.tmp 0), none⟩,
 ⟨(some 6), .bin .shr (.tmp 5) (.const (.int .u64 32)), none⟩,
 ⟨(some 0), .move (.tmp 6), none⟩])
 (.ops [
 ⟨(some 2), .move (.const (.int .i64 32)), none⟩]))
 .skip))
 (.seq
 (.seq
 (.ops [
 ⟨(some 7), .move (.tmp 0), none⟩,
 ⟨(some 8), .bin .geq (.tmp 7) (.const (.int .u64 65536)), none⟩])
 (.cond (.tmp 8)
 (.seq
 (.ops [
 ⟨(some 9), .move (.tmp 0), none⟩,
 ⟨(some 10), .bin .shr (.tmp 9) (.const (.int .u64 16)), none⟩,
 ⟨(some 0), .move (.tmp 10), none⟩])
 (.ops [
 ⟨(some 11), .move (.tmp 2), none⟩,
 ⟨(some 12), .bin .add (.tmp 11) (.const (.int .i64 16)), none⟩,
 ⟨(some 2), .move (.tmp 12), none⟩]))
 .skip))
 (.seq
 (.seq
 (.ops [
 ⟨(some 13), .move (.tmp 0), none⟩,
 ⟨(some 14), .bin .geq (.tmp 13) (.const (.int .u64 256)), none⟩])
 (.cond (.tmp 14)
 (.seq
 (.ops [
 ⟨(some 15), .move (.tmp 0), none⟩,
 ⟨(some 16), .bin .shr (.tmp 15) (.const (.int .u64 8)), none⟩,
 ⟨(some 0), .move (.tmp 16), none⟩])
 (.ops [
 ⟨(some 17), .move (.tmp 2), none⟩,
 ⟨(some 18), .bin .add (.tmp 17) (.const (.int .i64 8)), none⟩,
 ⟨(some 2), .move (.tmp 18), none⟩]))
 .skip))
 (.seq
 (.ops [
 ⟨(some 19), .move (.tmp 2), none⟩,
 ⟨(some 20), .move (.tmp 0), none⟩,
 ⟨(some 21), .conv .u8 (.tmp 20), none⟩,
 ⟨(some 22), .strIdx (.const (.str ⟨#[0, 1, 2, 2, 3, 3, 3, 3, 4, 4, 4, 4, 4, 4, 4, 4, 5, 5, 5, 5, 5, 5, 5, 5, 5, 5, 5, 5, 5, 5, 5, 5, 6, 6, 6, 6, 6, 6, 6, 6, 6, 6, 6, 6, 6, 6, 6, 6, 6, 6, 6, 6, 6, 6, 6, 6, 6, 6, 6, 6, 6, 6, 6, 6, 7, 7, 7, 7, 7, 7, 7, 7, 7, 7, 7, 7, 7, 7, 7, 7, 7, 7, 7, 7, 7, 7, 7, 7, 7, 7, 7, 7, 7, 7, 7, 7, 7, 7, 7, 7, 7, 7, 7, 7, 7, 7, 7, 7, 7, 7, 7, 7, 7, 7, 7, 7, 7, 7, 7, 7, 7, 7, 7, 7, 7, 7, 7, 7, 8, 8, 8, 8, 8, 8, 8, 8, 8, 8, 8, 8, 8, 8, 8, 8, 8, 8, 8, 8, 8, 8, 8, 8, 8, 8, 8, 8, 8, 8, 8, 8, 8, 8, 8, 8, 8, 8, 8, 8, 8, 8, 8, 8, 8, 8, 8, 8, 8, 8, 8, 8, 8, 8, 8, 8, 8, 8, 8, 8, 8, 8, 8, 8, 8, 8, 8, 8, 8, 8, 8, 8, 8, 8, 8, 8, 8, 8, 8, 8, 8, 8, 8, 8, 8, 8, 8, 8, 8, 8, 8, 8, 8, 8, 8, 8, 8, 8, 8, 8, 8, 8, 8, 8, 8, 8, 8, 8, 8, 8, 8, 8, 8, 8, 8, 8, 8, 8, 8, 8, 8, 8, 8, 8, 8, 8, 8, 8]⟩)) (.tmp 21), none⟩,
 ⟨(some 23), .conv .i64 (.tmp 22), none⟩,
 ⟨(some 24), .bin .add (.tmp 19) (.tmp 23), none⟩,
 ⟨(some 2), .move (.tmp 24), none⟩])
 .ret)))))⟩
theorem t64_ok : goodFn Try.prog 64 = true ∧ cfn Try.prog 64 = t64 := ⟨by kernel_rfl, by kernel_rfl⟩

/-- matchguard/matchguardref01.Compare -/
def t65 : NFn := ⟨26, [(.tmp 4)],
 (.seq
 (.ops [
 ⟨(some 2), .box (.tmp 0), none⟩,
 ⟨(some 3), .box (.tmp 1), none⟩,
 ⟨(some 4), .move (.const (.int .i64 0)), none⟩])
 (.seq
 (.draw 2 [
 ⟨0, ⟨(some 8), .load 2 true (.tmp 2), none⟩, [], 0⟩,
 ⟨1, ⟨(some 9), .call 71 [(.tmp 8)], none⟩, [0], 0⟩,
 ⟨2, ⟨(some 10), .load 2 true (.tmp 3), none⟩, [], 0⟩,
 ⟨3, ⟨(some 11), .call 71 [(.tmp 10)], none⟩, [2, 1, 0], 0⟩,
 ⟨4, ⟨(some 5), .alloc (fill 128 (.bool false)), none⟩, [], 0⟩,
 ⟨5, ⟨(some 6), .alloc (fill 128 (.bool false)), none⟩, [], 1⟩,
 ⟨6, ⟨none, .store 128 (.tmp 5) (.tmp 9), none⟩, [4, 1, 0, 3, 2, 5], 2⟩,
 ⟨7, ⟨none, .store 128 (.tmp 6) (.tmp 11), none⟩, [5, 3, 2, 1, 0, 6, 4], 2⟩])
 (.seq
 (.seq
 (.ops [
 ⟨(some 7), .move (.const (.int .i64 127)), none⟩])
 (.block 0
 (.loop
 (.seq
 (.seq
 (.ops [
 ⟨(some 12), .move (.tmp 7), none⟩,
 ⟨(some 13), .bin .geq (.tmp 12) (.const (.int .i64 0)), none⟩])
 (.cond (.tmp 13)
 .skip
 (.exit 0)))
 (.seq
 (.block 1
 (.seq
 (.draw 0 [
 ⟨0, ⟨(some 16), .move (.tmp 7), none⟩, [], 0⟩,
 ⟨1, ⟨(some 17), .idxArr (.tmp 5) (.tmp 16) 128 1, none⟩, [0], 0⟩,
 ⟨2, ⟨(some 18), .load 1 false (.tmp 17), none⟩, [1, 0], 0⟩,
 ⟨3, ⟨(some 19), .move (.tmp 7), none⟩, [], 0⟩,
 ⟨4, ⟨(some 20), .idxArr (.tmp 6) (.tmp 19) 128 1, none⟩, [3], 0⟩,
 ⟨5, ⟨(some 21), .load 1 false (.tmp 20), none⟩, [4, 3], 0⟩,
 ⟨6, ⟨(some 22), .eq true false [.bool] (.tmp 18) (.tmp 21), none⟩, [2, 1, 0, 5, 4, 3], 0⟩])
 (.cond (.tmp 22)
 (.seq
 (.seq
 (.ops [
 ⟨(some 23), .move (.tmp 7), none⟩,
 ⟨(some 24), .idxArr (.tmp 6) (.tmp 23) 128 1, none⟩,
 ⟨(some 25), .load 1 false (.tmp 24), none⟩])
 (.cond (.tmp 25)
 (.seq
 (.ops [
 ⟨(some 4), .move (.const (.int .i64 (-1))), none⟩])
 .ret)
 .skip))
 (.seq
 (.ops [
 ⟨(some 4), .move (.const (.int .i64 1)), none⟩])
 .ret))
 .skip)))
 (.ops [
 ⟨(some 14), .move (.tmp 7), none⟩,
 ⟨(some 15), .bin .sub (.tmp 14) (.const (.int .i64 1)), none⟩,
 ⟨(some 7), .move (.tmp 15), none⟩]))))))
 (.seq
 (.ops [
 ⟨(some 4), .move (.const (.int .i64 0)), none⟩])
 .ret))))⟩
theorem t65_ok : goodFn Try.prog 65 = true ∧ cfn Try.prog 65 = t65 := ⟨by kernel_rfl, by kernel_rfl⟩

/-- slices.siftDownCmpFunc[matchguard/refs.Count] -/
def t66 : NFn := ⟨82, [],
 (.seq
 (.ops [
 ⟨(some 12), .move (.tmp 1), none⟩,
 ⟨(some 10), .move (.tmp 12), none⟩])
 (.block 0
 (.loop
 (.block 1
 (.seq
 (.ops [
 ⟨(some 13), .move (.tmp 10), none⟩,
 ⟨(some 14), .bin .mul (.const (.int .i64 2)) (.tmp 13), none⟩,
 ⟨(some 15), .bin .add (.tmp 14) (.const (.int .i64 1)), none⟩,
 ⟨(some 11), .move (.tmp 15), none⟩])
 (.seq
 (.seq
 (.ops [
 ⟨(some 16), .move (.tmp 11), none⟩,
 ⟨(some 17), .move (.tmp 2), none⟩,
 ⟨(some 18), .bin .geq (.tmp 16) (.tmp 17), none⟩])
 (.cond (.tmp 18)
 (.exit 0)
 .skip))
 (.seq
 (.seq
 (.draw 0 [
 ⟨0, ⟨(some 19), .move (.tmp 11), none⟩, [], 0⟩,
 ⟨1, ⟨(some 20), .bin .add (.tmp 19) (.const (.int .i64 1)), none⟩, [0], 0⟩,
 ⟨2, ⟨(some 21), .move (.tmp 2), none⟩, [], 0⟩,
 ⟨3, ⟨(some 22), .bin .lss (.tmp 20) (.tmp 21), none⟩, [1, 0, 2], 0⟩,
 ⟨4, ⟨(some 23), .move (.tmp 22), none⟩, [3, 1, 0, 2], 0⟩,
 ⟨5, ⟨(some 24), .move (.tmp 4), (some (23, true))⟩, [4, 3, 1, 0, 2], 0⟩,
 ⟨6, ⟨(some 25), .move (.tmp 0), (some (23, true))⟩, [4, 3, 1, 0, 2], 0⟩,
 ⟨7, ⟨(some 26), .move (.tmp 3), (some (23, true))⟩, [4, 3, 1, 0, 2], 0⟩,
 ⟨8, ⟨(some 27), .move (.tmp 11), (some (23, true))⟩, [4, 3, 1, 0, 2], 0⟩,
 ⟨9, ⟨(some 28), .bin .add (.tmp 26) (.tmp 27), (some (23, true))⟩, [7, 4, 3, 1, 0, 2, 8], 0⟩,
 ⟨10, ⟨(some 29), .idxSl (.tmp 25) (.tmp 28) 6, (some (23, true))⟩, [6, 4, 3, 1, 0, 2, 9, 7, 8], 0⟩,
 ⟨11, ⟨(some 30), .load 6 true (.tmp 29), (some (23, true))⟩, [10, 6, 4, 3, 1, 0, 2, 9, 7, 8], 0⟩,
 ⟨12, ⟨(some 31), .move (.tmp 0), (some (23, true))⟩, [4, 3, 1, 0, 2], 0⟩,
 ⟨13, ⟨(some 32), .move (.tmp 3), (some (23, true))⟩, [4, 3, 1, 0, 2], 0⟩,
 ⟨14, ⟨(some 33), .move (.tmp 11), (some (23, true))⟩, [4, 3, 1, 0, 2], 0⟩,
 ⟨15, ⟨(some 34), .bin .add (.tmp 32) (.tmp 33), (some (23, true))⟩, [13, 4, 3, 1, 0, 2, 14], 0⟩,
 ⟨16, ⟨(some 35), .bin .add (.tmp 34) (.const (.int .i64 1)), (some (23, true))⟩, [15, 13, 4, 3, 1, 0, 2, 14], 0⟩,
 ⟨17, ⟨(some 36), .idxSl (.tmp 31) (.tmp 35) 6, (some (23, true))⟩, [12, 4, 3, 1, 0, 2, 16, 15, 13, 14], 0⟩,
 ⟨18, ⟨(some 37), .load 6 true (.tmp 36), (some (23, true))⟩, [17, 12, 4, 3, 1, 0, 2, 16, 15, 13, 14], 0⟩,
 ⟨19, ⟨(some 38), .callv (.tmp 24) [(.tmp 30), (.tmp 37)], (some (23, true))⟩, [5, 4, 3, 1, 0, 2, 11, 10, 6, 9, 7, 8, 18, 17, 12, 16, 15, 13, 14], 0⟩,
 ⟨20, ⟨(some 39), .bin .lss (.tmp 38) (.const (.int .i64 0)), (some (23, true))⟩, [19, 5, 4, 3, 1, 0, 2, 11, 10, 6, 9, 7, 8, 18, 17, 12, 16, 15, 13, 14], 0⟩,
 ⟨21, ⟨(some 40), .pick (.tmp 23) (.tmp 39) (.const (.bool false)), none⟩, [4, 3, 1, 0, 2, 20, 19, 5, 11, 10, 6, 9, 7, 8, 18, 17, 12, 16, 15, 13, 14], 0⟩])
 (.cond (.tmp 40)
 (.ops [
 ⟨(some 41), .move (.tmp 11), none⟩,
 ⟨(some 42), .bin .add (.tmp 41) (.const (.int .i64 1)), none⟩,
 ⟨(some 11), .move (.tmp 42), none⟩])
 .skip))
 (.seq
 (.seq
 (.draw 0 [
 ⟨0, ⟨(some 43), .move (.tmp 4), none⟩, [], 0⟩,
 ⟨1, ⟨(some 44), .move (.tmp 0), none⟩, [], 0⟩,
 ⟨2, ⟨(some 45), .move (.tmp 3), none⟩, [], 0⟩,
 ⟨3, ⟨(some 46), .move (.tmp 10), none⟩, [], 0⟩,
 ⟨4, ⟨(some 47), .bin .add (.tmp 45) (.tmp 46), none⟩, [2, 3], 0⟩,
 ⟨5, ⟨(some 48), .idxSl (.tmp 44) (.tmp 47) 6, none⟩, [1, 4, 2, 3], 0⟩,
 ⟨6, ⟨(some 49), .load 6 true (.tmp 48), none⟩, [5, 1, 4, 2, 3], 0⟩,
 ⟨7, ⟨(some 50), .move (.tmp 0), none⟩, [], 0⟩,
 ⟨8, ⟨(some 51), .move (.tmp 3), none⟩, [], 0⟩,
 ⟨9, ⟨(some 52), .move (.tmp 11), none⟩, [], 0⟩,
 ⟨10, ⟨(some 53), .bin .add (.tmp 51) (.tmp 52), none⟩, [8, 9], 0⟩,
 ⟨11, ⟨(some 54), .idxSl (.tmp 50) (.tmp 53) 6, none⟩, [7, 10, 8, 9], 0⟩,
 ⟨12, ⟨(some 55), .load 6 true (.tmp 54), none⟩, [11, 7, 10, 8, 9], 0⟩,
 ⟨13, ⟨(some 56), .callv (.tmp 43) [(.tmp 49), (.tmp 55)], none⟩, [0, 6, 5, 1, 4, 2, 3, 12, 11, 7, 10, 8, 9], 0⟩,
 ⟨14, ⟨(some 57), .bin .lss (.tmp 56) (.const (.int .i64 0)), none⟩, [13, 0, 6, 5, 1, 4, 2, 3, 12, 11, 7, 10, 8, 9], 0⟩,
 ⟨15, ⟨(some 58), .un .not (.tmp 57), none⟩, [14, 13, 0, 6, 5, 1, 4, 2, 3, 12, 11, 7, 10, 8, 9], 0⟩])
 (.cond (.tmp 58)
 .ret
 .skip))
 (.seq
 (.draw 0 [
 ⟨0, ⟨(some 59), .move (.tmp 0), none⟩, [], 0⟩,
 ⟨1, ⟨(some 60), .move (.tmp 3), none⟩, [], 0⟩,
 ⟨2, ⟨(some 61), .move (.tmp 10), none⟩, [], 0⟩,
 ⟨3, ⟨(some 62), .bin .add (.tmp 60) (.tmp 61), none⟩, [1, 2], 0⟩,
 ⟨4, ⟨(some 63), .move (.tmp 0), none⟩, [], 0⟩,
 ⟨5, ⟨(some 64), .move (.tmp 3), none⟩, [], 0⟩,
 ⟨6, ⟨(some 65), .move (.tmp 11), none⟩, [], 0⟩,
 ⟨7, ⟨(some 66), .bin .add (.tmp 64) (.tmp 65), none⟩, [5, 6], 0⟩,
 ⟨8, ⟨(some 67), .move (.tmp 0), none⟩, [], 0⟩,
 ⟨9, ⟨(some 68), .move (.tmp 3), none⟩, [], 0⟩,
 ⟨10, ⟨(some 69), .move (.tmp 11), none⟩, [], 0⟩,
 ⟨11, ⟨(some 70), .bin .add (.tmp 68) (.tmp 69), none⟩, [9, 10], 0⟩,
 ⟨12, ⟨(some 71), .idxSl (.tmp 67) (.tmp 70) 6, none⟩, [8, 11, 9, 10], 0⟩,
 ⟨13, ⟨(some 72), .load 6 true (.tmp 71), none⟩, [12, 8, 11, 9, 10], 0⟩,
 ⟨14, ⟨(some 73), .move (.tmp 0), none⟩, [], 0⟩,
 ⟨15, ⟨(some 74), .move (.tmp 3), none⟩, [], 0⟩,
 ⟨16, ⟨(some 75), .move (.tmp 10), none⟩, [], 0⟩,
 ⟨17, ⟨(some 76), .bin .add (.tmp 74) (.tmp 75), none⟩, [15, 16], 0⟩,
 ⟨18, ⟨(some 77), .idxSl (.tmp 73) (.tmp 76) 6, none⟩, [14, 17, 15, 16], 0⟩,
 ⟨19, ⟨(some 78), .load 6 true (.tmp 77), none⟩, [18, 14, 17, 15, 16], 0⟩,
 ⟨20, ⟨(some 79), .idxSl (.tmp 59) (.tmp 62) 6, none⟩, [0, 3, 1, 2, 8, 9, 10, 11, 12, 13, 19, 18, 14, 17, 15, 16], 0⟩,
 ⟨21, ⟨none, .store 6 (.tmp 79) (.tmp 72), none⟩, [20, 0, 3, 1, 2, 8, 9, 10, 11, 12, 13, 19, 18, 14, 17, 15, 16], 0⟩,
 ⟨22, ⟨(some 80), .idxSl (.tmp 63) (.tmp 66) 6, none⟩, [4, 7, 5, 6, 0, 1, 2, 3, 8, 9, 10, 11, 12, 13, 14, 15, 16, 17, 18, 19, 20, 21], 0⟩,
 ⟨23, ⟨none, .store 6 (.tmp 80) (.tmp 78), none⟩, [22, 4, 7, 5, 6, 0, 1, 2, 3, 8, 9, 10, 11, 12, 13, 14, 15, 16, 17, 18, 19, 20, 21], 0⟩])
 (.ops [
 ⟨(some 81), .move (.tmp 11), none⟩,
 ⟨(some 10), .move (.tmp 81), none⟩]))))))))))⟩
theorem t66_ok : goodFn Try.prog 66 = true ∧ cfn Try.prog 66 = t66 := ⟨by kernel_rfl, by kernel_rfl⟩

/-- slices.nextPowerOfTwo -/
def t67 : NFn := ⟨7, [(.tmp 2)],
 (.seq
 (.ops [
 ⟨(some 2), .move (.const (.int .u64 0)), none⟩])
 (.seq
 (.ops [
 ⟨(some 3), .move (.tmp 0), none⟩,
 ⟨(some 4), .conv .u64 (.tmp 3), none⟩,
 ⟨(some 5), .call 52 [(.tmp 4)], none⟩,
 ⟨(some 6), .bin .shl (.const (.int .u64 1)) (.tmp 5), none⟩,
 ⟨(some 2), .move (.tmp 6), none⟩])
 .ret))⟩
theorem t67_ok : goodFn Try.prog 67 = true ∧ cfn Try.prog 67 = t67 := ⟨by kernel_rfl, by kernel_rfl⟩

/-- (*slices.xorshift).Next -/
def t68 : NFn := ⟨33, [(.tmp 2)],
 (.seq
 (.ops [
 ⟨(some 2), .move (.const (.int .u64 0)), none⟩])
 (.seq
 (.draw 0 [
 ⟨0, ⟨(some 3), .move (.tmp 0), none⟩, [], 0⟩,
 ⟨1, ⟨(some 4), .nilCheck (.tmp 3), none⟩, [0], 0⟩,
 ⟨2, ⟨(some 5), .load 1 false (.tmp 4), none⟩, [1, 0], 0⟩,
 ⟨3, ⟨(some 6), .move (.tmp 0), none⟩, [], 0⟩,
 ⟨4, ⟨(some 7), .nilCheck (.tmp 6), none⟩, [3], 0⟩,
 ⟨5, ⟨(some 8), .load 1 false (.tmp 7), none⟩, [4, 3], 0⟩,
 ⟨6, ⟨(some 9), .bin .shl (.tmp 8) (.const (.int .u64 13)), none⟩, [5, 4, 3], 0⟩,
 ⟨7, ⟨(some 10), .bin .xor (.tmp 5) (.tmp 9), none⟩, [2, 1, 0, 6, 5, 4, 3], 0⟩,
 ⟨8, ⟨(some 11), .nilCheck (.tmp 3), none⟩, [0, 1, 2, 3, 4, 5, 6, 7], 0⟩,
 ⟨9, ⟨none, .store 1 (.tmp 11) (.tmp 10), none⟩, [8, 0, 1, 2, 3, 4, 5, 6, 7], 0⟩])
 (.seq
 (.draw 0 [
 ⟨0, ⟨(some 12), .move (.tmp 0), none⟩, [], 0⟩,
 ⟨1, ⟨(some 13), .nilCheck (.tmp 12), none⟩, [0], 0⟩,
 ⟨2, ⟨(some 14), .load 1 false (.tmp 13), none⟩, [1, 0], 0⟩,
 ⟨3, ⟨(some 15), .move (.tmp 0), none⟩, [], 0⟩,
 ⟨4, ⟨(some 16), .nilCheck (.tmp 15), none⟩, [3], 0⟩,
 ⟨5, ⟨(some 17), .load 1 false (.tmp 16), none⟩, [4, 3], 0⟩,
 ⟨6, ⟨(some 18), .bin .shr (.tmp 17) (.const (.int .u64 7)), none⟩, [5, 4, 3], 0⟩,
 ⟨7, ⟨(some 19), .bin .xor (.tmp 14) (.tmp 18), none⟩, [2, 1, 0, 6, 5, 4, 3], 0⟩,
 ⟨8, ⟨(some 20), .nilCheck (.tmp 12), none⟩, [0, 1, 2, 3, 4, 5, 6, 7], 0⟩,
 ⟨9, ⟨none, .store 1 (.tmp 20) (.tmp 19), none⟩, [8, 0, 1, 2, 3, 4, 5, 6, 7], 0⟩])
 (.seq
 (.draw 0 [
 ⟨0, ⟨(some 21), .move (.tmp 0), none⟩, [], 0⟩,
 ⟨1, ⟨(some 22), .nilCheck (.tmp 21), none⟩, [0], 0⟩,
 ⟨2, ⟨(some 23), .load 1 false (.tmp 22), none⟩, [1, 0], 0⟩,
 ⟨3, ⟨(some 24), .move (.tmp 0), none⟩, [], 0⟩,
 ⟨4, ⟨(some 25), .nilCheck (.tmp 24), none⟩, [3], 0⟩,
 ⟨5, ⟨(some 26), .load 1 false (.tmp 25), none⟩, [4, 3], 0⟩,
 ⟨6, ⟨(some 27), .bin .shl (.tmp 26) (.const (.int .u64 17)), none⟩, [5, 4, 3], 0⟩,
 ⟨7, ⟨(some 28), .bin .xor (.tmp 23) (.tmp 27), none⟩, [2, 1, 0, 6, 5, 4, 3], 0⟩,
 ⟨8, ⟨(some 29), .nilCheck (.tmp 21), none⟩, [0, 1, 2, 3, 4, 5, 6, 7], 0⟩,
 ⟨9, ⟨none, .store 1 (.tmp 29) (.tmp 28), none⟩, [8, 0, 1, 2, 3, 4, 5, 6, 7], 0⟩])
 (.seq
 (.ops [
 ⟨(some 30), .move (.tmp 0), none⟩,
 ⟨(some 31), .nilCheck (.tmp 30), none⟩,
 ⟨(some 32), .load 1 false (.tmp 31), none⟩,
 ⟨(some 2), .move (.tmp 32), none⟩])
 .ret)))))⟩
theorem t68_ok : goodFn Try.prog 68 = true ∧ cfn Try.prog 68 = t68 := ⟨by kernel_rfl, by kernel_rfl⟩

/-- slices.medianAdjacentCmpFunc[matchguard/refs.Count] -/
def t69 : NFn := ⟨18, [(.tmp 8)],
 (.seq
 (.ops [
 ⟨(some 8), .move (.const (.int .i64 0)), none⟩])
 (.seq
 (.ops [
 ⟨(some 9), .move (.tmp 0), none⟩,
 ⟨(some 10), .move (.tmp 1), none⟩,
 ⟨(some 11), .bin .sub (.tmp 10) (.const (.int .i64 1)), none⟩,
 ⟨(some 12), .move (.tmp 1), none⟩,
 ⟨(some 13), .move (.tmp 1), none⟩,
 ⟨(some 14), .bin .add (.tmp 13) (.const (.int .i64 1)), none⟩,
 ⟨(some 15), .move (.tmp 2), none⟩,
 ⟨(some 16), .move (.tmp 3), none⟩,
 ⟨(some 17), .call 70 [(.tmp 9), (.tmp 11), (.tmp 12), (.tmp 14), (.tmp 15), (.tmp 16)], none⟩,
 ⟨(some 8), .move (.tmp 17), none⟩])
 .ret))⟩
theorem t69_ok : goodFn Try.prog 69 = true ∧ cfn Try.prog 69 = t69 := ⟨by kernel_rfl, by kernel_rfl⟩

/-- slices.medianCmpFunc[matchguard/refs.Count] -/
def t70 : NFn := ⟨41, [(.tmp 12)],
 (.seq
 (.ops [
 ⟨(some 12), .move (.const (.int .i64 0)), none⟩])
 (.seq
 (.ops [
 ⟨(some 14), .move (.tmp 0), none⟩,
 ⟨(some 15), .move (.tmp 1), none⟩,
 ⟨(some 16), .move (.tmp 2), none⟩,
 ⟨(some 17), .move (.tmp 4), none⟩,
 ⟨(some 18), .move (.tmp 5), none⟩,
 ⟨(some 19), .call 72 [(.tmp 14), (.tmp 15), (.tmp 16), (.tmp 17), (.tmp 18)], none⟩,
 ⟨(some 13), .move (.tmp 19), none⟩,
 ⟨(some 20), .extract (.tmp 13) 0, none⟩,
 ⟨(some 21), .extract (.tmp 13) 1, none⟩,
 ⟨(some 1), .move (.tmp 20), none⟩,
 ⟨(some 2), .move (.tmp 21), none⟩])
 (.seq
 (.ops [
 ⟨(some 23), .move (.tmp 0), none⟩,
 ⟨(some 24), .move (.tmp 2), none⟩,
 ⟨(some 25), .move (.tmp 3), none⟩,
 ⟨(some 26), .move (.tmp 4), none⟩,
 ⟨(some 27), .move (.tmp 5), none⟩,
 ⟨(some 28), .call 72 [(.tmp 23), (.tmp 24), (.tmp 25), (.tmp 26), (.tmp 27)], none⟩,
 ⟨(some 22), .move (.tmp 28), none⟩,
 ⟨(some 29), .extract (.tmp 22) 0, none⟩,
 ⟨(some 30), .extract (.tmp 22) 1, none⟩,
 ⟨(some 2), .move (.tmp 29), none⟩,
 ⟨(some 3), .move (.tmp 30), none⟩])
 (.seq
 (.ops [
 ⟨(some 32), .move (.tmp 0), none⟩,
 ⟨(some 33), .move (.tmp 1), none⟩,
 ⟨(some 34), .move (.tmp 2), none⟩,
 ⟨(some 35), .move (.tmp 4), none⟩,
 ⟨(some 36), .move (.tmp 5), none⟩,
 ⟨(some 37), .call 72 [(.tmp 32), (.tmp 33), (.tmp 34), (.tmp 35), (.tmp 36)], none⟩,
 ⟨(some 31), .move (.tmp 37), none⟩,
 ⟨(some 38), .extract (.tmp 31) 0, none⟩,
 ⟨(some 39), .extract (.tmp 31) 1, none⟩,
 ⟨(some 1), .move (.tmp 38), none⟩,
 ⟨(some 2), .move (.tmp 39), none⟩])
 (.seq
 (.ops [
 ⟨(some 40), .move (.tmp 2), none⟩,
 ⟨(some 12), .move (.tmp 40), none⟩])
 .ret)))))⟩
theorem t70_ok : goodFn Try.prog 70 = true ∧ cfn Try.prog 70 = t70 := ⟨by kernel_rfl, by kernel_rfl⟩

/-- matchguard/matchguardref01.Read -/
def t71 : NFn := ⟨29, [(.cell 2 128 true)],
 (.seq
 (.ops [
 ⟨(some 1), .box (.tmp 0), none⟩,
 ⟨(some 2), .alloc (fill 128 (.bool false)), none⟩])
 (.seq
 (.ops [
 ⟨(some 3), .alloc (fill 128 (.bool false)), none⟩])
 (.seq
 (.seq
 (.ops [
 ⟨(some 4), .move (.const (.int .i64 0)), none⟩])
 (.block 0
 (.loop
 (.seq
 (.seq
 (.ops [
 ⟨(some 5), .move (.tmp 4), none⟩,
 ⟨(some 6), .bin .lss (.tmp 5) (.const (.int .i64 64)), none⟩])
 (.cond (.tmp 6)
 .skip
 (.exit 0)))
 (.seq
 (.block 1
 (.draw 0 [
 ⟨0, ⟨(some 9), .move (.tmp 4), none⟩, [], 0⟩,
 ⟨1, ⟨(some 10), .move (.tmp 4), none⟩, [], 0⟩,
 ⟨2, ⟨(some 11), .bin .add (.tmp 10) (.const (.int .i64 64)), none⟩, [1], 0⟩,
 ⟨3, ⟨(some 12), .off (.tmp 1) 1, none⟩, [], 0⟩,
 ⟨4, ⟨(some 13), .load 1 false (.tmp 12), none⟩, [3], 0⟩,
 ⟨5, ⟨(some 14), .move (.tmp 4), none⟩, [], 0⟩,
 ⟨6, ⟨(some 15), .conv .u64 (.tmp 14), none⟩, [5], 0⟩,
 ⟨7, ⟨(some 16), .bin .shr (.tmp 13) (.tmp 15), none⟩, [4, 3, 6, 5], 0⟩,
 ⟨8, ⟨(some 17), .bin .and (.tmp 16) (.const (.int .u64 1)), none⟩, [7, 4, 3, 6, 5], 0⟩,
 ⟨9, ⟨(some 18), .bin .eql (.tmp 17) (.const (.int .u64 1)), none⟩, [8, 7, 4, 3, 6, 5], 0⟩,
 ⟨10, ⟨(some 19), .off (.tmp 1) 0, none⟩, [], 0⟩,
 ⟨11, ⟨(some 20), .load 1 false (.tmp 19), none⟩, [10], 0⟩,
 ⟨12, ⟨(some 21), .move (.tmp 4), none⟩, [], 0⟩,
 ⟨13, ⟨(some 22), .conv .u64 (.tmp 21), none⟩, [12], 0⟩,
 ⟨14, ⟨(some 23), .bin .shr (.tmp 20) (.tmp 22), none⟩, [11, 10, 13, 12], 0⟩,
 ⟨15, ⟨(some 24), .bin .and (.tmp 23) (.const (.int .u64 1)), none⟩, [14, 11, 10, 13, 12], 0⟩,
 ⟨16, ⟨(some 25), .bin .eql (.tmp 24) (.const (.int .u64 1)), none⟩, [15, 14, 11, 10, 13, 12], 0⟩,
 ⟨17, ⟨(some 26), .idxArr (.tmp 3) (.tmp 9) 128 1, none⟩, [0, 3, 4, 5, 6, 7, 8, 9], 0⟩,
 ⟨18, ⟨none, .store 1 (.tmp 26) (.tmp 18), none⟩, [17, 0, 3, 4, 5, 6, 7, 8, 9], 0⟩,
 ⟨19, ⟨(some 27), .idxArr (.tmp 3) (.tmp 11) 128 1, none⟩, [2, 1, 0, 3, 4, 5, 6, 7, 8, 9, 10, 11, 12, 13, 14, 15, 16, 17, 18], 0⟩,
 ⟨20, ⟨none, .store 1 (.tmp 27) (.tmp 25), none⟩, [19, 2, 1, 0, 3, 4, 5, 6, 7, 8, 9, 10, 11, 12, 13, 14, 15, 16, 17, 18], 0⟩]))
 (.ops [
 ⟨(some 7), .move (.tmp 4), none⟩,
 ⟨(some 8), .bin .add (.tmp 7) (.const (.int .i64 1)), none⟩,
 ⟨(some 4), .move (.tmp 8), none⟩]))))))
 (.seq
 (.ops [
 ⟨(some 28), .load 128 true (.tmp 3), none⟩,
 ⟨none, .store 128 (.tmp 2) (.tmp 28), none⟩])
 .ret))))⟩
theorem t71_ok : goodFn Try.prog 71 = true ∧ cfn Try.prog 71 = t71 := ⟨by kernel_rfl, by kernel_rfl⟩

/-- slices.order2CmpFunc[matchguard/refs.Count] -/
def t72 : NFn := ⟨32, [(.tmp 10), (.tmp 11)],
 (.seq
 (.ops [
 ⟨(some 10), .move (.const (.int .i64 0)), none⟩,
 ⟨(some 11), .move (.const (.int .i64 0)), none⟩])
 (.seq
 (.seq
 (.draw 0 [
 ⟨0, ⟨(some 12), .move (.tmp 4), none⟩, [], 0⟩,
 ⟨1, ⟨(some 13), .move (.tmp 0), none⟩, [], 0⟩,
 ⟨2, ⟨(some 14), .move (.tmp 2), none⟩, [], 0⟩,
 ⟨3, ⟨(some 15), .idxSl (.tmp 13) (.tmp 14) 6, none⟩, [1, 2], 0⟩,
 ⟨4, ⟨(some 16), .load 6 true (.tmp 15), none⟩, [3, 1, 2], 0⟩,
 ⟨5, ⟨(some 17), .move (.tmp 0), none⟩, [], 0⟩,
 ⟨6, ⟨(some 18), .move (.tmp 1), none⟩, [], 0⟩,
 ⟨7, ⟨(some 19), .idxSl (.tmp 17) (.tmp 18) 6, none⟩, [5, 6], 0⟩,
 ⟨8, ⟨(some 20), .load 6 true (.tmp 19), none⟩, [7, 5, 6], 0⟩,
 ⟨9, ⟨(some 21), .callv (.tmp 12) [(.tmp 16), (.tmp 20)], none⟩, [0, 4, 3, 1, 2, 8, 7, 5, 6], 0⟩,
 ⟨10, ⟨(some 22), .bin .lss (.tmp 21) (.const (.int .i64 0)), none⟩, [9, 0, 4, 3, 1, 2, 8, 7, 5, 6], 0⟩])
 (.cond (.tmp 22)
 (.seq
 (.ops [
 ⟨(some 23), .move (.tmp 3), none⟩,
 ⟨(some 24), .nilCheck (.tmp 23), none⟩,
 ⟨(some 25), .load 1 false (.tmp 24), none⟩,
 ⟨(some 26), .bin .add (.tmp 25) (.const (.int .i64 1)), none⟩,
 ⟨(some 27), .nilCheck (.tmp 23), none⟩,
 ⟨none, .store 1 (.tmp 27) (.tmp 26), none⟩])
 (.seq
 (.ops [
 ⟨(some 28), .move (.tmp 2), none⟩,
 ⟨(some 29), .move (.tmp 1), none⟩,
 ⟨(some 10), .move (.tmp 28), none⟩,
 ⟨(some 11), .move (.tmp 29), none⟩])
 .ret))
 .skip))
 (.seq
 (.ops [
 ⟨(some 30), .move (.tmp 1), none⟩,
 ⟨(some 31), .move (.tmp 2), none⟩,
 ⟨(some 10), .move (.tmp 30), none⟩,
 ⟨(some 11), .move (.tmp 31), none⟩])
 .ret)))⟩
theorem t72_ok : goodFn Try.prog 72 = true ∧ cfn Try.prog 72 = t72 := ⟨by kernel_rfl, by kernel_rfl⟩

def tab : List (Nat × NFn) := [(5, t5), (7, t7), (8, t8), (10, t10), (11, t11), (12, t12), (13, t13), (14, t14), (15, t15), (16, t16), (17, t17), (18, t18), (19, t19), (20, t20), (21, t21), (22, t22), (23, t23), (24, t24), (25, t25), (26, t26), (27, t27), (28, t28), (29, t29), (30, t30), (31, t31), (32, t32), (33, t33), (34, t34), (35, t35), (36, t36), (37, t37), (38, t38), (39, t39), (40, t40), (41, t41), (42, t42), (43, t43), (44, t44), (45, t45), (46, t46), (47, t47), (48, t48), (49, t49), (50, t50), (51, t51), (52, t52), (53, t53), (54, t54), (55, t55), (56, t56), (57, t57), (58, t58), (59, t59), (60, t60), (61, t61), (62, t62), (63, t63), (64, t64), (65, t65), (66, t66), (67, t67), (68, t68), (69, t69), (70, t70), (71, t71), (72, t72)]
theorem tab_ok : ∀ p ∈ tab, goodFn Try.prog p.1 = true ∧ cfn Try.prog p.1 = p.2 := by
 intro p hp
 simp only [tab, List.mem_cons, List.not_mem_nil, or_false] at hp
 rcases hp with rfl | rfl | rfl | rfl | rfl | rfl | rfl | rfl | rfl | rfl | rfl | rfl | rfl | rfl | rfl | rfl | rfl | rfl | rfl | rfl | rfl | rfl | rfl | rfl | rfl | rfl | rfl | rfl | rfl | rfl | rfl | rfl | rfl | rfl | rfl | rfl | rfl | rfl | rfl | rfl | rfl | rfl | rfl | rfl | rfl | rfl | rfl | rfl | rfl | rfl | rfl | rfl | rfl | rfl | rfl | rfl | rfl | rfl | rfl | rfl | rfl | rfl | rfl | rfl | rfl | rfl
 · exact t5_ok
 · exact t7_ok
 · exact t8_ok
 · exact t10_ok
 · exact t11_ok
 · exact t12_ok
 · exact t13_ok
 · exact t14_ok
 · exact t15_ok
 · exact t16_ok
 · exact t17_ok
 · exact t18_ok
 · exact t19_ok
 · exact t20_ok
 · exact t21_ok
 · exact t22_ok
 · exact t23_ok
 · exact t24_ok
 · exact t25_ok
 · exact t26_ok
 · exact t27_ok
 · exact t28_ok
 · exact t29_ok
 · exact t30_ok
 · exact t31_ok
 · exact t32_ok
 · exact t33_ok
 · exact t34_ok
 · exact t35_ok
 · exact t36_ok
 · exact t37_ok
 · exact t38_ok
 · exact t39_ok
 · exact t40_ok
 · exact t41_ok
 · exact t42_ok
 · exact t43_ok
 · exact t44_ok
 · exact t45_ok
 · exact t46_ok
 · exact t47_ok
 · exact t48_ok
 · exact t49_ok
 · exact t50_ok
 · exact t51_ok
 · exact t52_ok
 · exact t53_ok
 · exact t54_ok
 · exact t55_ok
 · exact t56_ok
 · exact t57_ok
 · exact t58_ok
 · exact t59_ok
 · exact t60_ok
 · exact t61_ok
 · exact t62_ok
 · exact t63_ok
 · exact t64_ok
 · exact t65_ok
 · exact t66_ok
 · exact t67_ok
 · exact t68_ok
 · exact t69_ok
 · exact t70_ok
 · exact t71_ok
 · exact t72_ok
end Go.Proofs
