import Derived.Test.YtghjfohjkgllbaaNsQ
import Derived.Test.YtghjfohjkgllbaaProg
import Derived.KernelRfl
set_option maxRecDepth 100000
namespace Go.Proofs
open Go.Ns
/-- A long list of one value over and over. -/
def fill (n : Nat) (x : NV) : List NV := List.replicate n x
 /-- matchguard/matchguardlaw28.ExtractParses -/
def t3 : NFn := ⟨77, [(.tmp 8)],
 (.seq
 (.ops [
 ⟨(some 8), .move (.const (.bool false)), none⟩])
 (.seq
 (.ops [
 ⟨(some 17), .move (.tmp 2), none⟩,
 ⟨(some 18), .move (.tmp 2), none⟩,
 ⟨(some 19), .lenSl (.tmp 18), none⟩,
 ⟨(some 20), .minmax false [(.tmp 19), (.const (.int .i64 60))], none⟩,
 ⟨(some 21), .slice (.tmp 17) none (some (.tmp 20)) none 1, none⟩,
 ⟨(some 2), .move (.tmp 21), none⟩])
 (.seq
 (.ops [
 ⟨(some 22), .move (.tmp 0), none⟩,
 ⟨(some 23), .call 7 [(.tmp 22), (.const (.int .i64 120))], none⟩,
 ⟨(some 24), .call 8 [(.tmp 23)], none⟩,
 ⟨(some 25), .move (.tmp 1), none⟩,
 ⟨(some 26), .call 7 [(.tmp 25), (.const (.int .i64 60))], none⟩,
 ⟨(some 9), .alloc [(.slice none 0 (.fix 0)), (.slice none 0 (.fix 0)), (.slice none 0 (.fix 0)), (.slice none 0 (.fix 0)), (.slice none 0 (.fix 0)), (.slice none 0 (.fix 0)), (.slice none 0 (.fix 0)), (.slice none 0 (.fix 0)), (.int .i64 0), (.int .i64 0)], none⟩,
 ⟨none, .store 10 (.tmp 9) (.tmp 24), none⟩,
 ⟨(some 10), .move (.tmp 26), none⟩])
 (.seq
 (.seq
 (.ops [
 ⟨(some 27), .move (.tmp 2), none⟩,
 ⟨(some 28), .move (.tmp 10), none⟩,
 ⟨(some 29), .call 9 [(.tmp 28)], none⟩,
 ⟨(some 30), .move (.tmp 10), none⟩,
 ⟨(some 31), .call 9 [(.tmp 30)], none⟩,
 ⟨(some 32), .move (.tmp 10), none⟩,
 ⟨(some 33), .call 9 [(.tmp 32)], none⟩,
 ⟨(some 34), .bslice 4 [(.slice none 0 (.fix 0)), (.slice none 0 (.fix 0)), (.slice none 0 (.fix 0)), (.slice none 0 (.fix 0))] [(0, 1, (.tmp 27)), (1, 1, (.tmp 29)), (2, 1, (.tmp 31)), (3, 1, (.tmp 33))], none⟩,
 ⟨(some 35), .lenSl (.tmp 34), none⟩,
 ⟨(some 36), .move (.const (.int .i64 0)), none⟩])
 (.block 0
 (.loop
 (.seq
 (.ops [
 ⟨(some 37), .bin .lss (.tmp 36) (.tmp 35), none⟩])
 (.seq
 (.cond (.tmp 37)
 .skip
 (.exit 0))
 (.seq
 (.block 1
 (.seq
 (.ops [
 ⟨(some 38), .idxSl (.tmp 34) (.tmp 36) 1, none⟩,
 ⟨(some 39), .load 1 false (.tmp 38), none⟩,
 ⟨(some 12), .move (.tmp 39), none⟩])
 (.seq
 (.draw 2 [
 ⟨0, ⟨(some 40), .load 10 true (.tmp 9), none⟩, [], 0⟩,
 ⟨1, ⟨(some 41), .move (.tmp 3), none⟩, [], 0⟩,
 ⟨2, ⟨(some 42), .move (.tmp 12), none⟩, [], 0⟩,
 ⟨3, ⟨(some 43), .call 10 [(.tmp 40), (.tmp 41), (.tmp 42)], none⟩, [0, 1, 2], 0⟩,
 ⟨4, ⟨(some 44), .load 10 true (.tmp 9), none⟩, [], 0⟩,
 ⟨5, ⟨(some 45), .move (.tmp 3), none⟩, [], 0⟩,
 ⟨6, ⟨(some 46), .move (.tmp 12), none⟩, [], 0⟩,
 ⟨7, ⟨(some 47), .call 11 [(.tmp 44), (.tmp 45), (.tmp 46)], none⟩, [4, 5, 6, 3, 0, 1, 2], 0⟩,
 ⟨8, ⟨(some 13), .alloc [(.slice none 0 (.fix 0)), (.slice none 0 (.fix 0)), (.slice none 0 (.fix 0)), (.int .i64 0), (.bool false)], none⟩, [], 0⟩,
 ⟨9, ⟨(some 14), .alloc [(.slice none 0 (.fix 0)), (.slice none 0 (.fix 0)), (.slice none 0 (.fix 0)), (.int .i64 0), (.bool false)], none⟩, [], 1⟩,
 ⟨10, ⟨none, .store 5 (.tmp 13) (.tmp 43), none⟩, [8, 3, 0, 1, 2, 7, 4, 5, 6, 9], 2⟩,
 ⟨11, ⟨none, .store 5 (.tmp 14) (.tmp 47), none⟩, [9, 7, 4, 5, 6, 3, 0, 1, 2, 10, 8], 2⟩])
 (.seq
 (.seq
 (.draw 0 [
 ⟨0, ⟨(some 48), .load 5 true (.tmp 13), none⟩, [], 0⟩,
 ⟨1, ⟨(some 49), .call 13 [(.tmp 48)], none⟩, [0], 0⟩,
 ⟨2, ⟨(some 50), .load 5 true (.tmp 14), none⟩, [], 0⟩,
 ⟨3, ⟨(some 51), .call 12 [(.tmp 49), (.tmp 50)], none⟩, [1, 0, 2], 0⟩,
 ⟨4, ⟨(some 52), .un .not (.tmp 51), none⟩, [3, 1, 0, 2], 0⟩])
 (.cond (.tmp 52)
 (.seq
 (.ops [
 ⟨(some 8), .move (.const (.bool false)), none⟩])
 .ret)
 .skip))
 (.seq
 (.ops [
 ⟨(some 54), .load 10 true (.tmp 9), none⟩,
 ⟨(some 55), .load 5 true (.tmp 13), none⟩,
 ⟨(some 56), .call 14 [(.tmp 54), (.tmp 55)], none⟩,
 ⟨(some 53), .move (.tmp 56), none⟩,
 ⟨(some 57), .extract (.tmp 53) 0, none⟩,
 ⟨(some 58), .extract (.tmp 53) 1, none⟩,
 ⟨none, .store 5 (.tmp 13) (.tmp 57), none⟩,
 ⟨(some 15), .move (.tmp 58), none⟩])
 (.seq
 (.ops [
 ⟨(some 60), .load 10 true (.tmp 9), none⟩,
 ⟨(some 61), .load 5 true (.tmp 14), none⟩,
 ⟨(some 62), .call 15 [(.tmp 60), (.tmp 61)], none⟩,
 ⟨(some 59), .move (.tmp 62), none⟩,
 ⟨(some 63), .extract (.tmp 59) 0, none⟩,
 ⟨(some 64), .extract (.tmp 59) 1, none⟩,
 ⟨none, .store 5 (.tmp 14) (.tmp 63), none⟩,
 ⟨(some 16), .move (.tmp 64), none⟩])
 (.seq
 (.draw 0 [
 ⟨0, ⟨(some 65), .move (.tmp 15), none⟩, [], 0⟩,
 ⟨1, ⟨(some 66), .move (.tmp 16), none⟩, [], 0⟩,
 ⟨2, ⟨(some 67), .bin .neq (.tmp 65) (.tmp 66), none⟩, [0, 1], 0⟩,
 ⟨3, ⟨(some 68), .move (.tmp 67), none⟩, [2, 0, 1], 0⟩,
 ⟨4, ⟨(some 69), .load 5 true (.tmp 13), (some (68, false))⟩, [3, 2, 0, 1], 0⟩,
 ⟨5, ⟨(some 70), .call 13 [(.tmp 69)], (some (68, false))⟩, [4, 3, 2, 0, 1], 0⟩,
 ⟨6, ⟨(some 71), .load 5 true (.tmp 14), (some (68, false))⟩, [3, 2, 0, 1], 0⟩,
 ⟨7, ⟨(some 72), .call 12 [(.tmp 70), (.tmp 71)], (some (68, false))⟩, [5, 4, 3, 2, 0, 1, 6], 0⟩,
 ⟨8, ⟨(some 73), .un .not (.tmp 72), (some (68, false))⟩, [7, 5, 4, 3, 2, 0, 1, 6], 0⟩,
 ⟨9, ⟨(some 74), .pick (.tmp 68) (.const (.bool true)) (.tmp 73), none⟩, [3, 2, 0, 1, 8, 7, 5, 4, 6], 0⟩])
 (.cond (.tmp 74)
 (.seq
 (.ops [
 ⟨(some 8), .move (.const (.bool false)), none⟩])
 .ret)
 .skip))))))))
 (.ops [
 ⟨(some 75), .bin .add (.tmp 36) (.const (.int .i64 1)), none⟩,
 ⟨(some 36), .move (.tmp 75), none⟩])))))))
 (.seq
 (.ops [
 ⟨(some 76), .call 16 [], none⟩,
 ⟨(some 8), .move (.tmp 76), none⟩])
 .ret)))))⟩
theorem t3_ok : goodFn Try.prog 3 = true ∧ cfn Try.prog 3 = t3 := ⟨by kernel_rfl, by kernel_rfl⟩
 /-- matchguard/matchguardcase.New -/
def t7 : NFn := ⟨13, [(.tmp 4)],
 (.seq
 (.ops [
 ⟨(some 4), .move (.const (.ptr none)), none⟩])
 (.seq
 (.ops [
 ⟨(some 5), .move (.tmp 0), none⟩,
 ⟨(some 6), .move (.tmp 0), none⟩,
 ⟨(some 7), .lenSl (.tmp 6), none⟩,
 ⟨(some 8), .move (.tmp 1), none⟩,
 ⟨(some 9), .minmax false [(.tmp 7), (.tmp 8)], none⟩,
 ⟨(some 10), .slice (.tmp 5) none (some (.tmp 9)) none 1, none⟩,
 ⟨(some 11), .build [(.slice none 0 (.fix 0)), (.int .i64 0)] [(0, 1, (.tmp 10))], none⟩,
 ⟨(some 12), .box (.tmp 11), none⟩,
 ⟨(some 4), .move (.tmp 12), none⟩])
 .ret))⟩
theorem t7_ok : goodFn Try.prog 7 = true ∧ cfn Try.prog 7 = t7 := ⟨by kernel_rfl, by kernel_rfl⟩
 /-- (*matchguard/matchguardcase.Codes).Schema -/
def t8 : NFn := ⟨102, [(.cell 2 10 true)],
 (.seq
 (.ops [
 ⟨(some 2), .alloc [(.slice none 0 (.fix 0)), (.slice none 0 (.fix 0)), (.slice none 0 (.fix 0)), (.slice none 0 (.fix 0)), (.slice none 0 (.fix 0)), (.slice none 0 (.fix 0)), (.slice none 0 (.fix 0)), (.slice none 0 (.fix 0)), (.int .i64 0), (.int .i64 0)], none⟩])
 (.seq
 (.ops [
 ⟨(some 4), .move (.tmp 0), none⟩,
 ⟨(some 5), .call 24 [(.tmp 4), (.const (.int .i64 8))], none⟩,
 ⟨(some 6), .bin .add (.const (.int .i64 2)) (.tmp 5), none⟩,
 ⟨(some 7), .move (.tmp 0), none⟩,
 ⟨(some 8), .call 24 [(.tmp 7), (.const (.int .i64 30))], none⟩,
 ⟨(some 9), .bin .add (.const (.int .i64 12)) (.tmp 8), none⟩,
 ⟨(some 10), .build [(.slice none 0 (.fix 0)), (.slice none 0 (.fix 0)), (.slice none 0 (.fix 0)), (.slice none 0 (.fix 0)), (.slice none 0 (.fix 0)), (.slice none 0 (.fix 0)), (.slice none 0 (.fix 0)), (.slice none 0 (.fix 0)), (.int .i64 0), (.int .i64 0)] [(8, 1, (.tmp 6)), (9, 1, (.tmp 9))], none⟩,
 ⟨(some 3), .alloc [(.slice none 0 (.fix 0)), (.slice none 0 (.fix 0)), (.slice none 0 (.fix 0)), (.slice none 0 (.fix 0)), (.slice none 0 (.fix 0)), (.slice none 0 (.fix 0)), (.slice none 0 (.fix 0)), (.slice none 0 (.fix 0)), (.int .i64 0), (.int .i64 0)], none⟩,
 ⟨none, .store 10 (.tmp 3) (.tmp 10), none⟩])
 (.seq
 (.ops [
 ⟨(some 11), .build [(.int .i64 0), (.str ⟨#[]⟩), (.int .i64 0)] [(0, 1, (.const (.int .i64 1))), (1, 1, (.const (.str ⟨#[105, 110, 103, 114, 101, 115, 115]⟩))), (2, 1, (.const (.int .i64 16)))], none⟩,
 ⟨(some 12), .build [(.int .i64 0), (.str ⟨#[]⟩), (.int .i64 0)] [(0, 1, (.const (.int .i64 2))), (1, 1, (.const (.str ⟨#[101, 103, 114, 101, 115, 115]⟩))), (2, 1, (.const (.int .i64 16)))], none⟩,
 ⟨(some 13), .build [(.int .i64 0), (.str ⟨#[]⟩), (.int .i64 0)] [(0, 1, (.const (.int .i64 3))), (1, 1, (.const (.str ⟨#[109, 101, 116, 97]⟩))), (2, 1, (.const (.int .i64 8)))], none⟩,
 ⟨(some 14), .build [(.int .i64 0), (.str ⟨#[]⟩), (.int .i64 0)] [(0, 1, (.const (.int .i64 4))), (1, 1, (.const (.str ⟨#[97]⟩))), (2, 1, (.const (.int .i64 4)))], none⟩,
 ⟨(some 15), .build [(.int .i64 0), (.str ⟨#[]⟩), (.int .i64 0)] [(0, 1, (.const (.int .i64 5))), (1, 1, (.const (.str ⟨#[98]⟩))), (2, 1, (.const (.int .i64 4)))], none⟩,
 ⟨(some 16), .build [(.int .i64 0), (.str ⟨#[]⟩), (.int .i64 0)] [(0, 1, (.const (.int .i64 6))), (1, 1, (.const (.str ⟨#[101]⟩))), (2, 1, (.const (.int .i64 8)))], none⟩,
 ⟨(some 17), .build [(.int .i64 0), (.str ⟨#[]⟩), (.int .i64 0)] [(0, 1, (.const (.int .i64 7))), (1, 1, (.const (.str ⟨#[100]⟩))), (2, 1, (.const (.int .i64 32)))], none⟩,
 ⟨(some 18), .build [(.int .i64 0), (.str ⟨#[]⟩), (.int .i64 0)] [(0, 1, (.const (.int .i64 8))), (1, 1, (.const (.str ⟨#[102]⟩))), (2, 1, (.const (.int .i64 12)))], none⟩,
 ⟨(some 19), .build [(.int .i64 0), (.str ⟨#[]⟩), (.int .i64 0)] [(0, 1, (.const (.int .i64 9))), (1, 1, (.const (.str ⟨#[103]⟩))), (2, 1, (.const (.int .i64 4)))], none⟩,
 ⟨(some 20), .bslice 9 [(.int .i64 0), (.str ⟨#[]⟩), (.int .i64 0), (.int .i64 0), (.str ⟨#[]⟩), (.int .i64 0), (.int .i64 0), (.str ⟨#[]⟩), (.int .i64 0), (.int .i64 0), (.str ⟨#[]⟩), (.int .i64 0), (.int .i64 0), (.str ⟨#[]⟩), (.int .i64 0), (.int .i64 0), (.str ⟨#[]⟩), (.int .i64 0), (.int .i64 0), (.str ⟨#[]⟩), (.int .i64 0), (.int .i64 0), (.str ⟨#[]⟩), (.int .i64 0), (.int .i64 0), (.str ⟨#[]⟩), (.int .i64 0)] [(0, 3, (.tmp 11)), (3, 3, (.tmp 12)), (6, 3, (.tmp 13)), (9, 3, (.tmp 14)), (12, 3, (.tmp 15)), (15, 3, (.tmp 16)), (18, 3, (.tmp 17)), (21, 3, (.tmp 18)), (24, 3, (.tmp 19))], none⟩,
 ⟨(some 21), .off (.tmp 3) 0, none⟩,
 ⟨none, .store 1 (.tmp 21) (.tmp 20), none⟩])
 (.seq
 (.ops [
 ⟨(some 22), .bslice 3 [(.int .i64 0), (.int .i64 0), (.int .i64 0)] [(0, 1, (.const (.int .i64 4))), (1, 1, (.const (.int .i64 5))), (2, 1, (.const (.int .i64 6)))], none⟩,
 ⟨(some 23), .build [(.int .i64 0), (.str ⟨#[]⟩), (.slice none 0 (.fix 0))] [(0, 1, (.const (.int .i64 1))), (1, 1, (.const (.str ⟨#[111, 110, 101]⟩))), (2, 1, (.tmp 22))], none⟩,
 ⟨(some 24), .bslice 1 [(.int .i64 0)] [(0, 1, (.const (.int .i64 7)))], none⟩,
 ⟨(some 25), .build [(.int .i64 0), (.str ⟨#[]⟩), (.slice none 0 (.fix 0))] [(0, 1, (.const (.int .i64 2))), (1, 1, (.const (.str ⟨#[116, 119, 111]⟩))), (2, 1, (.tmp 24))], none⟩,
 ⟨(some 26), .bslice 2 [(.int .i64 0), (.int .i64 0)] [(0, 1, (.const (.int .i64 8))), (1, 1, (.const (.int .i64 9)))], none⟩,
 ⟨(some 27), .build [(.int .i64 0), (.str ⟨#[]⟩), (.slice none 0 (.fix 0))] [(0, 1, (.const (.int .i64 3))), (1, 1, (.const (.str ⟨#[116, 104, 114, 101, 101]⟩))), (2, 1, (.tmp 26))], none⟩,
 ⟨(some 28), .bslice 3 [(.int .i64 0), (.str ⟨#[]⟩), (.slice none 0 (.fix 0)), (.int .i64 0), (.str ⟨#[]⟩), (.slice none 0 (.fix 0)), (.int .i64 0), (.str ⟨#[]⟩), (.slice none 0 (.fix 0))] [(0, 3, (.tmp 23)), (3, 3, (.tmp 25)), (6, 3, (.tmp 27))], none⟩,
 ⟨(some 29), .off (.tmp 3) 1, none⟩,
 ⟨none, .store 1 (.tmp 29) (.tmp 28), none⟩])
 (.seq
 (.ops [
 ⟨(some 30), .move (.tmp 0), none⟩,
 ⟨(some 31), .call 25 [(.tmp 30)], none⟩,
 ⟨(some 32), .move (.tmp 0), none⟩,
 ⟨(some 33), .call 26 [(.tmp 32)], none⟩,
 ⟨(some 34), .move (.tmp 0), none⟩,
 ⟨(some 35), .call 27 [(.tmp 34)], none⟩,
 ⟨(some 36), .off (.tmp 3) 2, none⟩,
 ⟨none, .store 1 (.tmp 36) (.tmp 31), none⟩,
 ⟨(some 37), .off (.tmp 3) 3, none⟩,
 ⟨none, .store 1 (.tmp 37) (.tmp 33), none⟩,
 ⟨(some 38), .off (.tmp 3) 4, none⟩,
 ⟨none, .store 1 (.tmp 38) (.tmp 35), none⟩])
 (.seq
 (.ops [
 ⟨(some 39), .move (.tmp 0), none⟩,
 ⟨(some 40), .off (.tmp 3) 4, none⟩,
 ⟨(some 41), .load 1 false (.tmp 40), none⟩,
 ⟨(some 42), .call 28 [(.tmp 39), (.tmp 41)], none⟩,
 ⟨(some 43), .off (.tmp 3) 6, none⟩,
 ⟨none, .store 1 (.tmp 43) (.tmp 42), none⟩])
 (.seq
 (.ops [
 ⟨(some 44), .build [(.int .i64 0), (.int .i64 0)] [(0, 1, (.const (.int .i64 1))), (1, 1, (.const (.int .i64 1)))], none⟩,
 ⟨(some 45), .build [(.int .i64 0), (.int .i64 0)] [(0, 1, (.const (.int .i64 2))), (1, 1, (.const (.int .i64 2)))], none⟩,
 ⟨(some 46), .build [(.int .i64 0), (.int .i64 0)] [(0, 1, (.const (.int .i64 3)))], none⟩,
 ⟨(some 47), .build [(.int .i64 0), (.int .i64 0)] [(0, 1, (.const (.int .i64 4))), (1, 1, (.const (.int .i64 3)))], none⟩,
 ⟨(some 48), .bslice 4 [(.int .i64 0), (.int .i64 0), (.int .i64 0), (.int .i64 0), (.int .i64 0), (.int .i64 0), (.int .i64 0), (.int .i64 0)] [(0, 2, (.tmp 44)), (2, 2, (.tmp 45)), (4, 2, (.tmp 46)), (6, 2, (.tmp 47))], none⟩,
 ⟨(some 49), .off (.tmp 3) 5, none⟩,
 ⟨none, .store 1 (.tmp 49) (.tmp 48), none⟩])
 (.seq
 (.seq
 (.ops [
 ⟨(some 50), .move (.tmp 0), none⟩,
 ⟨(some 51), .call 29 [(.tmp 50)], none⟩])
 (.cond (.tmp 51)
 (.ops [
 ⟨(some 52), .off (.tmp 3) 5, none⟩,
 ⟨(some 53), .load 1 false (.tmp 52), none⟩,
 ⟨(some 54), .build [(.int .i64 0), (.int .i64 0)] [(0, 1, (.const (.int .i64 1)))], none⟩,
 ⟨(some 55), .bslice 1 [(.int .i64 0), (.int .i64 0)] [(0, 2, (.tmp 54))], none⟩,
 ⟨(some 56), .append 2 16 (.tmp 53) (.tmp 55), none⟩,
 ⟨(some 57), .off (.tmp 3) 5, none⟩,
 ⟨none, .store 1 (.tmp 57) (.tmp 56), none⟩])
 .skip))
 (.seq
 (.seq
 (.ops [
 ⟨(some 58), .move (.tmp 0), none⟩,
 ⟨(some 59), .call 29 [(.tmp 58)], none⟩])
 (.cond (.tmp 59)
 (.ops [
 ⟨(some 60), .off (.tmp 3) 7, none⟩,
 ⟨(some 61), .load 1 false (.tmp 60), none⟩,
 ⟨(some 62), .build [(.int .i64 0), (.int .i64 0), (.int .i64 0), (.int .i64 0), (.int .i64 0), (.int .i64 0)] [(0, 1, (.const (.int .i64 2))), (2, 1, (.const (.int .i64 4))), (4, 1, (.const (.int .i64 1)))], none⟩,
 ⟨(some 63), .bslice 1 [(.int .i64 0), (.int .i64 0), (.int .i64 0), (.int .i64 0), (.int .i64 0), (.int .i64 0)] [(0, 6, (.tmp 62))], none⟩,
 ⟨(some 64), .append 6 48 (.tmp 61) (.tmp 63), none⟩,
 ⟨(some 65), .off (.tmp 3) 7, none⟩,
 ⟨none, .store 1 (.tmp 65) (.tmp 64), none⟩])
 .skip))
 (.seq
 (.seq
 (.ops [
 ⟨(some 66), .move (.tmp 0), none⟩,
 ⟨(some 67), .call 29 [(.tmp 66)], none⟩,
 ⟨(some 68), .move (.tmp 67), none⟩,
 ⟨(some 69), .off (.tmp 3) 4, (some (68, true))⟩,
 ⟨(some 70), .load 1 false (.tmp 69), (some (68, true))⟩,
 ⟨(some 71), .idxSl (.tmp 70) (.const (.int .i64 2)) 8, (some (68, true))⟩,
 ⟨(some 72), .off (.tmp 71) 2, (some (68, true))⟩,
 ⟨(some 73), .load 1 false (.tmp 72), (some (68, true))⟩,
 ⟨(some 74), .lenSl (.tmp 73), (some (68, true))⟩,
 ⟨(some 75), .bin .eql (.tmp 74) (.const (.int .i64 3)), (some (68, true))⟩,
 ⟨(some 76), .pick (.tmp 68) (.tmp 75) (.const (.bool false)), none⟩])
 (.cond (.tmp 76)
 (.ops [
 ⟨(some 77), .off (.tmp 3) 7, none⟩,
 ⟨(some 78), .load 1 false (.tmp 77), none⟩,
 ⟨(some 79), .build [(.int .i64 0), (.int .i64 0), (.int .i64 0), (.int .i64 0), (.int .i64 0), (.int .i64 0)] [(0, 1, (.const (.int .i64 3))), (1, 1, (.const (.int .i64 2))), (4, 1, (.const (.int .i64 1)))], none⟩,
 ⟨(some 80), .bslice 1 [(.int .i64 0), (.int .i64 0), (.int .i64 0), (.int .i64 0), (.int .i64 0), (.int .i64 0)] [(0, 6, (.tmp 79))], none⟩,
 ⟨(some 81), .append 6 48 (.tmp 78) (.tmp 80), none⟩,
 ⟨(some 82), .off (.tmp 3) 7, none⟩,
 ⟨none, .store 1 (.tmp 82) (.tmp 81), none⟩])
 .skip))
 (.seq
 (.seq
 (.ops [
 ⟨(some 83), .move (.tmp 0), none⟩,
 ⟨(some 84), .call 29 [(.tmp 83)], none⟩,
 ⟨(some 85), .move (.tmp 84), none⟩,
 ⟨(some 86), .off (.tmp 3) 4, (some (85, true))⟩,
 ⟨(some 87), .load 1 false (.tmp 86), (some (85, true))⟩,
 ⟨(some 88), .idxSl (.tmp 87) (.const (.int .i64 3)) 8, (some (85, true))⟩,
 ⟨(some 89), .off (.tmp 88) 2, (some (85, true))⟩,
 ⟨(some 90), .load 1 false (.tmp 89), (some (85, true))⟩,
 ⟨(some 91), .lenSl (.tmp 90), (some (85, true))⟩,
 ⟨(some 92), .bin .eql (.tmp 91) (.const (.int .i64 3)), (some (85, true))⟩,
 ⟨(some 93), .pick (.tmp 85) (.tmp 92) (.const (.bool false)), none⟩])
 (.cond (.tmp 93)
 (.ops [
 ⟨(some 94), .off (.tmp 3) 7, none⟩,
 ⟨(some 95), .load 1 false (.tmp 94), none⟩,
 ⟨(some 96), .build [(.int .i64 0), (.int .i64 0), (.int .i64 0), (.int .i64 0), (.int .i64 0), (.int .i64 0)] [(0, 1, (.const (.int .i64 4))), (1, 1, (.const (.int .i64 1))), (4, 1, (.const (.int .i64 1)))], none⟩,
 ⟨(some 97), .build [(.int .i64 0), (.int .i64 0), (.int .i64 0), (.int .i64 0), (.int .i64 0), (.int .i64 0)] [(0, 1, (.const (.int .i64 4))), (2, 1, (.const (.int .i64 5))), (4, 1, (.const (.int .i64 1)))], none⟩,
 ⟨(some 98), .bslice 2 [(.int .i64 0), (.int .i64 0), (.int .i64 0), (.int .i64 0), (.int .i64 0), (.int .i64 0), (.int .i64 0), (.int .i64 0), (.int .i64 0), (.int .i64 0), (.int .i64 0), (.int .i64 0)] [(0, 6, (.tmp 96)), (6, 6, (.tmp 97))], none⟩,
 ⟨(some 99), .append 6 48 (.tmp 95) (.tmp 98), none⟩,
 ⟨(some 100), .off (.tmp 3) 7, none⟩,
 ⟨none, .store 1 (.tmp 100) (.tmp 99), none⟩])
 .skip))
 (.seq
 (.ops [
 ⟨(some 101), .load 10 true (.tmp 3), none⟩,
 ⟨none, .store 10 (.tmp 2) (.tmp 101), none⟩])
 .ret))))))))))))⟩
theorem t8_ok : goodFn Try.prog 8 = true ∧ cfn Try.prog 8 = t8 := ⟨by kernel_rfl, by kernel_rfl⟩
 /-- (*matchguard/matchguardcase.Codes).Frame -/
def t9 : NFn := ⟨29, [(.tmp 2)],
 (.seq
 (.ops [
 ⟨(some 2), .move (.const (.slice none 0 (.fix 0))), none⟩])
 (.seq
 (.ops [
 ⟨(some 4), .move (.tmp 0), none⟩,
 ⟨(some 5), .move (.tmp 0), none⟩,
 ⟨(some 6), .call 24 [(.tmp 5), (.const (.int .i64 14))], none⟩,
 ⟨(some 7), .call 30 [(.tmp 4), (.tmp 6)], none⟩,
 ⟨(some 3), .move (.tmp 7), none⟩])
 (.seq
 (.seq
 (.ops [
 ⟨(some 8), .move (.tmp 3), none⟩,
 ⟨(some 9), .lenSl (.tmp 8), none⟩,
 ⟨(some 10), .bin .gtr (.tmp 9) (.const (.int .i64 0)), none⟩,
 ⟨(some 11), .move (.tmp 10), none⟩,
 ⟨(some 12), .move (.tmp 0), (some (11, true))⟩,
 ⟨(some 13), .call 29 [(.tmp 12)], (some (11, true))⟩,
 ⟨(some 14), .pick (.tmp 11) (.tmp 13) (.const (.bool false)), none⟩])
 (.cond (.tmp 14)
 (.draw 1 [
 ⟨0, ⟨(some 15), .move (.tmp 3), none⟩, [], 0⟩,
 ⟨1, ⟨(some 16), .move (.tmp 3), none⟩, [], 0⟩,
 ⟨2, ⟨(some 17), .idxSl (.tmp 16) (.const (.int .i64 0)) 1, none⟩, [1], 0⟩,
 ⟨3, ⟨(some 18), .load 1 false (.tmp 17), none⟩, [2, 1], 0⟩,
 ⟨4, ⟨(some 19), .bin .and (.tmp 18) (.const (.int .u8 15)), none⟩, [3, 2, 1], 0⟩,
 ⟨5, ⟨(some 20), .bslice 4 [(.int .i64 0), (.int .i64 0), (.int .i64 0), (.int .i64 0)] [(0, 1, (.const (.int .i64 16))), (1, 1, (.const (.int .i64 32))), (2, 1, (.const (.int .i64 96))), (3, 1, (.const (.int .i64 160)))], none⟩, [], 0⟩,
 ⟨6, ⟨(some 21), .move (.tmp 0), none⟩, [], 1⟩,
 ⟨7, ⟨(some 22), .call 24 [(.tmp 21), (.const (.int .i64 4))], none⟩, [6], 1⟩,
 ⟨8, ⟨(some 23), .idxSl (.tmp 20) (.tmp 22) 1, none⟩, [5, 7, 6], 1⟩,
 ⟨9, ⟨(some 24), .load 1 false (.tmp 23), none⟩, [8, 5, 7, 6], 1⟩,
 ⟨10, ⟨(some 25), .conv .u8 (.tmp 24), none⟩, [9, 8, 5, 7, 6], 1⟩,
 ⟨11, ⟨(some 26), .bin .or (.tmp 19) (.tmp 25), none⟩, [4, 3, 2, 1, 10, 9, 8, 5, 7, 6], 1⟩,
 ⟨12, ⟨(some 27), .idxSl (.tmp 15) (.const (.int .i64 0)) 1, none⟩, [0, 1, 2, 3, 4, 5, 6, 7, 8, 9, 10, 11], 1⟩,
 ⟨13, ⟨none, .store 1 (.tmp 27) (.tmp 26), none⟩, [12, 0, 1, 2, 3, 4, 5, 6, 7, 8, 9, 10, 11], 1⟩])
 .skip))
 (.seq
 (.ops [
 ⟨(some 28), .move (.tmp 3), none⟩,
 ⟨(some 2), .move (.tmp 28), none⟩])
 .ret))))⟩
theorem t9_ok : goodFn Try.prog 9 = true ∧ cfn Try.prog 9 = t9 := ⟨by kernel_rfl, by kernel_rfl⟩
 /-- matchguard/extract.Start -/
def t10 : NFn := ⟨33, [(.cell 6 5 true)],
 (.seq
 (.ops [
 ⟨(some 3), .box (.tmp 0), none⟩,
 ⟨(some 6), .alloc [(.slice none 0 (.fix 0)), (.slice none 0 (.fix 0)), (.slice none 0 (.fix 0)), (.int .i64 0), (.bool false)], none⟩])
 (.seq
 (.draw 3 [
 ⟨0, ⟨(some 9), .off (.tmp 3) 0, none⟩, [], 0⟩,
 ⟨1, ⟨(some 10), .load 1 false (.tmp 9), none⟩, [0], 0⟩,
 ⟨2, ⟨(some 11), .lenSl (.tmp 10), none⟩, [1, 0], 0⟩,
 ⟨3, ⟨(some 12), .mkslice 2 16 [(.int .u64 0), (.int .u64 0)] (.tmp 11) (.tmp 11), none⟩, [2, 1, 0], 0⟩,
 ⟨4, ⟨(some 13), .off (.tmp 3) 1, none⟩, [], 1⟩,
 ⟨5, ⟨(some 14), .load 1 false (.tmp 13), none⟩, [4], 1⟩,
 ⟨6, ⟨(some 15), .lenSl (.tmp 14), none⟩, [5, 4], 1⟩,
 ⟨7, ⟨(some 16), .mkslice 1 1 [(.bool false)] (.tmp 15) (.tmp 15), none⟩, [6, 5, 4], 1⟩,
 ⟨8, ⟨(some 17), .move (.tmp 2), none⟩, [], 2⟩,
 ⟨9, ⟨(some 18), .call 31 [(.tmp 17)], none⟩, [8], 2⟩,
 ⟨10, ⟨(some 19), .build [(.slice none 0 (.fix 0)), (.slice none 0 (.fix 0)), (.slice none 0 (.fix 0)), (.int .i64 0), (.bool false)] [(0, 1, (.tmp 12)), (1, 1, (.tmp 16)), (2, 1, (.tmp 18))], none⟩, [3, 2, 1, 0, 7, 6, 5, 4, 9, 8], 2⟩,
 ⟨11, ⟨(some 7), .alloc [(.slice none 0 (.fix 0)), (.slice none 0 (.fix 0)), (.slice none 0 (.fix 0)), (.int .i64 0), (.bool false)], none⟩, [], 2⟩,
 ⟨12, ⟨none, .store 5 (.tmp 7) (.tmp 19), none⟩, [11, 10, 3, 2, 1, 0, 7, 6, 5, 4, 9, 8], 3⟩])
 (.seq
 (.seq
 (.ops [
 ⟨(some 20), .load 10 true (.tmp 3), none⟩,
 ⟨(some 21), .call 32 [(.tmp 20), (.const (.int .i64 1))], none⟩,
 ⟨(some 8), .move (.tmp 21), none⟩])
 (.seq
 (.ops [
 ⟨(some 22), .move (.tmp 8), none⟩,
 ⟨(some 23), .bin .geq (.tmp 22) (.const (.int .i64 0)), none⟩])
 (.cond (.tmp 23)
 (.draw 0 [
 ⟨0, ⟨(some 24), .off (.tmp 7) 0, none⟩, [], 0⟩,
 ⟨1, ⟨(some 25), .load 1 false (.tmp 24), none⟩, [0], 0⟩,
 ⟨2, ⟨(some 26), .move (.tmp 8), none⟩, [], 0⟩,
 ⟨3, ⟨(some 27), .move (.tmp 1), none⟩, [], 0⟩,
 ⟨4, ⟨(some 28), .conv .u64 (.tmp 27), none⟩, [3], 0⟩,
 ⟨5, ⟨(some 29), .bin .and (.tmp 28) (.const (.int .u64 65535)), none⟩, [4, 3], 0⟩,
 ⟨6, ⟨(some 30), .call 33 [(.tmp 29)], none⟩, [5, 4, 3], 0⟩,
 ⟨7, ⟨(some 31), .idxSl (.tmp 25) (.tmp 26) 2, none⟩, [1, 0, 2, 3, 4, 5, 6], 0⟩,
 ⟨8, ⟨none, .store 2 (.tmp 31) (.tmp 30), none⟩, [7, 1, 0, 2, 3, 4, 5, 6], 0⟩])
 .skip)))
 (.seq
 (.ops [
 ⟨(some 32), .load 5 true (.tmp 7), none⟩,
 ⟨none, .store 5 (.tmp 6) (.tmp 32), none⟩])
 .ret))))⟩
theorem t10_ok : goodFn Try.prog 10 = true ∧ cfn Try.prog 10 = t10 := ⟨by kernel_rfl, by kernel_rfl⟩
 /-- matchguard/matchguardref28.Start -/
def t11 : NFn := ⟨30, [(.cell 6 5 true)],
 (.seq
 (.ops [
 ⟨(some 3), .box (.tmp 0), none⟩,
 ⟨(some 6), .alloc [(.slice none 0 (.fix 0)), (.slice none 0 (.fix 0)), (.slice none 0 (.fix 0)), (.int .i64 0), (.bool false)], none⟩])
 (.seq
 (.draw 4 [
 ⟨0, ⟨(some 8), .off (.tmp 3) 0, none⟩, [], 0⟩,
 ⟨1, ⟨(some 9), .load 1 false (.tmp 8), none⟩, [0], 0⟩,
 ⟨2, ⟨(some 10), .lenSl (.tmp 9), none⟩, [1, 0], 0⟩,
 ⟨3, ⟨(some 11), .mkslice 2 16 [(.int .u64 0), (.int .u64 0)] (.tmp 10) (.tmp 10), none⟩, [2, 1, 0], 0⟩,
 ⟨4, ⟨(some 12), .off (.tmp 3) 1, none⟩, [], 1⟩,
 ⟨5, ⟨(some 13), .load 1 false (.tmp 12), none⟩, [4], 1⟩,
 ⟨6, ⟨(some 14), .lenSl (.tmp 13), none⟩, [5, 4], 1⟩,
 ⟨7, ⟨(some 15), .mkslice 1 1 [(.bool false)] (.tmp 14) (.tmp 14), none⟩, [6, 5, 4], 1⟩,
 ⟨8, ⟨(some 16), .bslice 0 [] [], none⟩, [], 2⟩,
 ⟨9, ⟨(some 17), .move (.tmp 2), none⟩, [], 3⟩,
 ⟨10, ⟨(some 18), .append 1 1 (.tmp 16) (.tmp 17), none⟩, [8, 9], 3⟩,
 ⟨11, ⟨(some 19), .build [(.slice none 0 (.fix 0)), (.slice none 0 (.fix 0)), (.slice none 0 (.fix 0)), (.int .i64 0), (.bool false)] [(0, 1, (.tmp 11)), (1, 1, (.tmp 15)), (2, 1, (.tmp 18))], none⟩, [3, 2, 1, 0, 7, 6, 5, 4, 10, 8, 9], 3⟩,
 ⟨12, ⟨(some 7), .alloc [(.slice none 0 (.fix 0)), (.slice none 0 (.fix 0)), (.slice none 0 (.fix 0)), (.int .i64 0), (.bool false)], none⟩, [], 3⟩,
 ⟨13, ⟨none, .store 5 (.tmp 7) (.tmp 19), none⟩, [12, 11, 3, 2, 1, 0, 7, 6, 5, 4, 10, 8, 9], 4⟩])
 (.seq
 (.draw 0 [
 ⟨0, ⟨(some 20), .off (.tmp 7) 0, none⟩, [], 0⟩,
 ⟨1, ⟨(some 21), .load 1 false (.tmp 20), none⟩, [0], 0⟩,
 ⟨2, ⟨(some 22), .load 10 true (.tmp 3), none⟩, [], 0⟩,
 ⟨3, ⟨(some 23), .call 23 [(.tmp 22), (.const (.int .i64 1))], none⟩, [2], 0⟩,
 ⟨4, ⟨(some 24), .move (.tmp 1), none⟩, [], 0⟩,
 ⟨5, ⟨(some 25), .bin .and (.tmp 24) (.const (.int .i64 65535)), none⟩, [4], 0⟩,
 ⟨6, ⟨(some 26), .conv .u64 (.tmp 25), none⟩, [5, 4], 0⟩,
 ⟨7, ⟨(some 27), .build [(.int .u64 0), (.int .u64 0)] [(1, 1, (.tmp 26))], none⟩, [6, 5, 4], 0⟩,
 ⟨8, ⟨(some 28), .idxSl (.tmp 21) (.tmp 23) 2, none⟩, [1, 0, 3, 2, 4, 5, 6, 7], 0⟩,
 ⟨9, ⟨none, .store 2 (.tmp 28) (.tmp 27), none⟩, [8, 1, 0, 3, 2, 4, 5, 6, 7], 0⟩])
 (.seq
 (.ops [
 ⟨(some 29), .load 5 true (.tmp 7), none⟩,
 ⟨none, .store 5 (.tmp 6) (.tmp 29), none⟩])
 .ret))))⟩
theorem t11_ok : goodFn Try.prog 11 = true ∧ cfn Try.prog 11 = t11 := ⟨by kernel_rfl, by kernel_rfl⟩
 /-- matchguard/matchguardref28.Same -/
def t12 : NFn := ⟨82, [(.tmp 4)],
 (.seq
 (.ops [
 ⟨(some 2), .box (.tmp 0), none⟩,
 ⟨(some 3), .box (.tmp 1), none⟩,
 ⟨(some 4), .move (.const (.bool false)), none⟩])
 (.seq
 (.seq
 (.ops [
 ⟨(some 7), .off (.tmp 2) 0, none⟩,
 ⟨(some 8), .load 1 false (.tmp 7), none⟩,
 ⟨(some 9), .lenSl (.tmp 8), none⟩,
 ⟨(some 10), .off (.tmp 3) 0, none⟩,
 ⟨(some 11), .load 1 false (.tmp 10), none⟩,
 ⟨(some 12), .lenSl (.tmp 11), none⟩,
 ⟨(some 13), .bin .neq (.tmp 9) (.tmp 12), none⟩,
 ⟨(some 14), .move (.tmp 13), none⟩,
 ⟨(some 15), .off (.tmp 2) 1, (some (14, false))⟩,
 ⟨(some 16), .load 1 false (.tmp 15), (some (14, false))⟩,
 ⟨(some 17), .lenSl (.tmp 16), (some (14, false))⟩,
 ⟨(some 18), .off (.tmp 3) 1, (some (14, false))⟩,
 ⟨(some 19), .load 1 false (.tmp 18), (some (14, false))⟩,
 ⟨(some 20), .lenSl (.tmp 19), (some (14, false))⟩,
 ⟨(some 21), .bin .neq (.tmp 17) (.tmp 20), (some (14, false))⟩,
 ⟨(some 22), .pick (.tmp 14) (.const (.bool true)) (.tmp 21), none⟩,
 ⟨(some 23), .move (.tmp 22), none⟩,
 ⟨(some 24), .off (.tmp 2) 2, (some (23, false))⟩,
 ⟨(some 25), .load 1 false (.tmp 24), (some (23, false))⟩,
 ⟨(some 26), .toStr (.tmp 25), (some (23, false))⟩,
 ⟨(some 27), .off (.tmp 3) 2, (some (23, false))⟩,
 ⟨(some 28), .load 1 false (.tmp 27), (some (23, false))⟩,
 ⟨(some 29), .toStr (.tmp 28), (some (23, false))⟩,
 ⟨(some 30), .bin .neq (.tmp 26) (.tmp 29), (some (23, false))⟩,
 ⟨(some 31), .pick (.tmp 23) (.const (.bool true)) (.tmp 30), none⟩,
 ⟨(some 32), .move (.tmp 31), none⟩,
 ⟨(some 33), .off (.tmp 2) 3, (some (32, false))⟩,
 ⟨(some 34), .load 1 false (.tmp 33), (some (32, false))⟩,
 ⟨(some 35), .off (.tmp 3) 3, (some (32, false))⟩,
 ⟨(some 36), .load 1 false (.tmp 35), (some (32, false))⟩,
 ⟨(some 37), .bin .neq (.tmp 34) (.tmp 36), (some (32, false))⟩,
 ⟨(some 38), .pick (.tmp 32) (.const (.bool true)) (.tmp 37), none⟩,
 ⟨(some 39), .move (.tmp 38), none⟩,
 ⟨(some 40), .off (.tmp 2) 4, (some (39, false))⟩,
 ⟨(some 41), .load 1 false (.tmp 40), (some (39, false))⟩,
 ⟨(some 42), .off (.tmp 3) 4, (some (39, false))⟩,
 ⟨(some 43), .load 1 false (.tmp 42), (some (39, false))⟩,
 ⟨(some 44), .eq true false [.bool] (.tmp 41) (.tmp 43), (some (39, false))⟩,
 ⟨(some 45), .pick (.tmp 39) (.const (.bool true)) (.tmp 44), none⟩])
 (.cond (.tmp 45)
 (.seq
 (.ops [
 ⟨(some 4), .move (.const (.bool false)), none⟩])
 .ret)
 .skip))
 (.seq
 (.seq
 (.ops [
 ⟨(some 46), .off (.tmp 2) 0, none⟩,
 ⟨(some 47), .load 1 false (.tmp 46), none⟩,
 ⟨(some 48), .lenSl (.tmp 47), none⟩,
 ⟨(some 49), .move (.const (.int .i64 0)), none⟩])
 (.block 0
 (.loop
 (.seq
 (.ops [
 ⟨(some 50), .bin .lss (.tmp 49) (.tmp 48), none⟩])
 (.seq
 (.cond (.tmp 50)
 .skip
 (.exit 0))
 (.seq
 (.block 1
 (.seq
 (.ops [
 ⟨(some 51), .move (.tmp 49), none⟩,
 ⟨(some 5), .move (.tmp 51), none⟩])
 (.seq
 (.draw 0 [
 ⟨0, ⟨(some 52), .off (.tmp 2) 0, none⟩, [], 0⟩,
 ⟨1, ⟨(some 53), .load 1 false (.tmp 52), none⟩, [0], 0⟩,
 ⟨2, ⟨(some 54), .move (.tmp 5), none⟩, [], 0⟩,
 ⟨3, ⟨(some 55), .idxSl (.tmp 53) (.tmp 54) 2, none⟩, [1, 0, 2], 0⟩,
 ⟨4, ⟨(some 56), .load 2 true (.tmp 55), none⟩, [3, 1, 0, 2], 0⟩,
 ⟨5, ⟨(some 57), .off (.tmp 3) 0, none⟩, [], 0⟩,
 ⟨6, ⟨(some 58), .load 1 false (.tmp 57), none⟩, [5], 0⟩,
 ⟨7, ⟨(some 59), .move (.tmp 5), none⟩, [], 0⟩,
 ⟨8, ⟨(some 60), .idxSl (.tmp 58) (.tmp 59) 2, none⟩, [6, 5, 7], 0⟩,
 ⟨9, ⟨(some 61), .load 2 true (.tmp 60), none⟩, [8, 6, 5, 7], 0⟩,
 ⟨10, ⟨(some 62), .eq true true [.int, .int] (.tmp 56) (.tmp 61), none⟩, [4, 3, 1, 0, 2, 9, 8, 6, 5, 7], 0⟩])
 (.cond (.tmp 62)
 (.seq
 (.ops [
 ⟨(some 4), .move (.const (.bool false)), none⟩])
 .ret)
 .skip))))
 (.ops [
 ⟨(some 63), .bin .add (.tmp 49) (.const (.int .i64 1)), none⟩,
 ⟨(some 49), .move (.tmp 63), none⟩])))))))
 (.seq
 (.seq
 (.ops [
 ⟨(some 64), .off (.tmp 2) 1, none⟩,
 ⟨(some 65), .load 1 false (.tmp 64), none⟩,
 ⟨(some 66), .lenSl (.tmp 65), none⟩,
 ⟨(some 67), .move (.const (.int .i64 0)), none⟩])
 (.block 2
 (.loop
 (.seq
 (.ops [
 ⟨(some 68), .bin .lss (.tmp 67) (.tmp 66), none⟩])
 (.seq
 (.cond (.tmp 68)
 .skip
 (.exit 2))
 (.seq
 (.block 3
 (.seq
 (.ops [
 ⟨(some 69), .move (.tmp 67), none⟩,
 ⟨(some 6), .move (.tmp 69), none⟩])
 (.seq
 (.draw 0 [
 ⟨0, ⟨(some 70), .off (.tmp 2) 1, none⟩, [], 0⟩,
 ⟨1, ⟨(some 71), .load 1 false (.tmp 70), none⟩, [0], 0⟩,
 ⟨2, ⟨(some 72), .move (.tmp 6), none⟩, [], 0⟩,
 ⟨3, ⟨(some 73), .idxSl (.tmp 71) (.tmp 72) 1, none⟩, [1, 0, 2], 0⟩,
 ⟨4, ⟨(some 74), .load 1 false (.tmp 73), none⟩, [3, 1, 0, 2], 0⟩,
 ⟨5, ⟨(some 75), .off (.tmp 3) 1, none⟩, [], 0⟩,
 ⟨6, ⟨(some 76), .load 1 false (.tmp 75), none⟩, [5], 0⟩,
 ⟨7, ⟨(some 77), .move (.tmp 6), none⟩, [], 0⟩,
 ⟨8, ⟨(some 78), .idxSl (.tmp 76) (.tmp 77) 1, none⟩, [6, 5, 7], 0⟩,
 ⟨9, ⟨(some 79), .load 1 false (.tmp 78), none⟩, [8, 6, 5, 7], 0⟩,
 ⟨10, ⟨(some 80), .eq true false [.bool] (.tmp 74) (.tmp 79), none⟩, [4, 3, 1, 0, 2, 9, 8, 6, 5, 7], 0⟩])
 (.cond (.tmp 80)
 (.seq
 (.ops [
 ⟨(some 4), .move (.const (.bool false)), none⟩])
 .ret)
 .skip))))
 (.ops [
 ⟨(some 81), .bin .add (.tmp 67) (.const (.int .i64 1)), none⟩,
 ⟨(some 67), .move (.tmp 81), none⟩])))))))
 (.seq
 (.ops [
 ⟨(some 4), .move (.const (.bool true)), none⟩])
 .ret)))))⟩
theorem t12_ok : goodFn Try.prog 12 = true ∧ cfn Try.prog 12 = t12 := ⟨by kernel_rfl, by kernel_rfl⟩
 /-- matchguard/matchguardlaw28.context -/
def t13 : NFn := ⟨14, [(.cell 2 5 true)],
 (.seq
 (.ops [
 ⟨(some 1), .box (.tmp 0), none⟩,
 ⟨(some 2), .alloc [(.slice none 0 (.fix 0)), (.slice none 0 (.fix 0)), (.slice none 0 (.fix 0)), (.int .i64 0), (.bool false)], none⟩])
 (.seq
 (.ops [
 ⟨(some 3), .off (.tmp 1) 0, none⟩,
 ⟨(some 4), .load 1 false (.tmp 3), none⟩,
 ⟨(some 5), .off (.tmp 1) 1, none⟩,
 ⟨(some 6), .load 1 false (.tmp 5), none⟩,
 ⟨(some 7), .off (.tmp 1) 2, none⟩,
 ⟨(some 8), .load 1 false (.tmp 7), none⟩,
 ⟨(some 9), .off (.tmp 1) 3, none⟩,
 ⟨(some 10), .load 1 false (.tmp 9), none⟩,
 ⟨(some 11), .off (.tmp 1) 4, none⟩,
 ⟨(some 12), .load 1 false (.tmp 11), none⟩,
 ⟨(some 13), .build [(.slice none 0 (.fix 0)), (.slice none 0 (.fix 0)), (.slice none 0 (.fix 0)), (.int .i64 0), (.bool false)] [(0, 1, (.tmp 4)), (1, 1, (.tmp 6)), (2, 1, (.tmp 8)), (3, 1, (.tmp 10)), (4, 1, (.tmp 12))], none⟩,
 ⟨none, .store 5 (.tmp 2) (.tmp 13), none⟩])
 .ret))⟩
theorem t13_ok : goodFn Try.prog 13 = true ∧ cfn Try.prog 13 = t13 := ⟨by kernel_rfl, by kernel_rfl⟩
 /-- matchguard/extract.Parse -/
def t14 : NFn := ⟨57, [(.cell 4 5 true), (.tmp 5)],
 (.seq
 (.ops [
 ⟨(some 2), .box (.tmp 0), none⟩,
 ⟨(some 3), .box (.tmp 1), none⟩,
 ⟨(some 4), .alloc [(.slice none 0 (.fix 0)), (.slice none 0 (.fix 0)), (.slice none 0 (.fix 0)), (.int .i64 0), (.bool false)], none⟩,
 ⟨(some 5), .move (.const (.int .i64 0)), none⟩])
 (.seq
 (.ops [
 ⟨(some 10), .load 5 true (.tmp 3), none⟩,
 ⟨(some 11), .call 34 [(.tmp 10)], none⟩,
 ⟨none, .store 5 (.tmp 3) (.tmp 11), none⟩])
 (.seq
 (.seq
 (.ops [
 ⟨(some 12), .off (.tmp 2) 2, none⟩,
 ⟨(some 13), .load 1 false (.tmp 12), none⟩,
 ⟨(some 14), .lenSl (.tmp 13), none⟩,
 ⟨(some 15), .bin .eql (.tmp 14) (.const (.int .i64 0)), none⟩])
 (.cond (.tmp 15)
 (.seq
 (.ops [
 ⟨(some 16), .load 5 true (.tmp 3), none⟩,
 ⟨none, .store 5 (.tmp 4) (.tmp 16), none⟩,
 ⟨(some 5), .move (.const (.int .i64 0)), none⟩])
 .ret)
 .skip))
 (.seq
 (.ops [
 ⟨(some 6), .move (.const (.int .i64 0)), none⟩,
 ⟨(some 7), .move (.const (.int .i64 0)), none⟩])
 (.seq
 .skip
 (.seq
 (.block 0
 (.loop
 (.block 1
 (.seq
 (.seq
 (.ops [
 ⟨(some 17), .off (.tmp 3) 3, none⟩,
 ⟨(some 18), .load 1 false (.tmp 17), none⟩,
 ⟨(some 19), .off (.tmp 2) 9, none⟩,
 ⟨(some 20), .load 1 false (.tmp 19), none⟩,
 ⟨(some 21), .bin .geq (.tmp 18) (.tmp 20), none⟩])
 (.cond (.tmp 21)
 (.seq
 (.ops [
 ⟨(some 6), .move (.const (.int .i64 4)), none⟩])
 (.exit 0))
 .skip))
 (.seq
 (.ops [
 ⟨(some 22), .off (.tmp 3) 3, none⟩,
 ⟨(some 23), .load 1 false (.tmp 22), none⟩,
 ⟨(some 24), .bin .add (.tmp 23) (.const (.int .i64 1)), none⟩,
 ⟨(some 25), .off (.tmp 3) 3, none⟩,
 ⟨none, .store 1 (.tmp 25) (.tmp 24), none⟩])
 (.seq
 (.ops [
 ⟨(some 26), .off (.tmp 2) 2, none⟩,
 ⟨(some 27), .load 1 false (.tmp 26), none⟩,
 ⟨(some 28), .move (.tmp 7), none⟩,
 ⟨(some 29), .idxSl (.tmp 27) (.tmp 28) 5, none⟩,
 ⟨(some 30), .load 5 true (.tmp 29), none⟩,
 ⟨(some 8), .alloc [(.int .i64 0), (.int .i64 0), (.int .i64 0), (.slice none 0 (.fix 0)), (.int .i64 0)], none⟩,
 ⟨none, .store 5 (.tmp 8) (.tmp 30), none⟩])
 (.seq
 (.seq
 (.draw 0 [
 ⟨0, ⟨(some 31), .off (.tmp 8) 1, none⟩, [], 0⟩,
 ⟨1, ⟨(some 32), .load 1 false (.tmp 31), none⟩, [0], 0⟩,
 ⟨2, ⟨(some 33), .bin .neq (.tmp 32) (.const (.int .i64 0)), none⟩, [1, 0], 0⟩,
 ⟨3, ⟨(some 34), .move (.tmp 33), none⟩, [2, 1, 0], 0⟩,
 ⟨4, ⟨(some 35), .load 10 true (.tmp 2), (some (34, true))⟩, [3, 2, 1, 0], 0⟩,
 ⟨5, ⟨(some 36), .load 10 true (.tmp 2), (some (34, true))⟩, [3, 2, 1, 0], 0⟩,
 ⟨6, ⟨(some 37), .off (.tmp 8) 1, (some (34, true))⟩, [3, 2, 1, 0], 0⟩,
 ⟨7, ⟨(some 38), .load 1 false (.tmp 37), (some (34, true))⟩, [6, 3, 2, 1, 0], 0⟩,
 ⟨8, ⟨(some 39), .call 36 [(.tmp 36), (.tmp 38)], (some (34, true))⟩, [5, 3, 2, 1, 0, 7, 6], 0⟩,
 ⟨9, ⟨(some 40), .call 35 [(.tmp 35), (.tmp 3), (.tmp 39)], (some (34, true))⟩, [4, 3, 2, 1, 0, 8, 5, 7, 6], 0⟩,
 ⟨10, ⟨(some 41), .un .not (.tmp 40), (some (34, true))⟩, [9, 4, 3, 2, 1, 0, 8, 5, 7, 6], 0⟩,
 ⟨11, ⟨(some 42), .pick (.tmp 34) (.tmp 41) (.const (.bool false)), none⟩, [3, 2, 1, 0, 10, 9, 4, 8, 5, 7, 6], 0⟩])
 (.cond (.tmp 42)
 (.seq
 (.ops [
 ⟨(some 6), .move (.const (.int .i64 2)), none⟩])
 (.exit 0))
 .skip))
 (.seq
 (.ops [
 ⟨(some 43), .load 10 true (.tmp 2), none⟩,
 ⟨(some 44), .load 5 true (.tmp 3), none⟩,
 ⟨(some 45), .load 5 true (.tmp 8), none⟩,
 ⟨(some 46), .call 37 [(.tmp 43), (.tmp 44), (.tmp 45)], none⟩,
 ⟨(some 9), .move (.tmp 46), none⟩])
 (.seq
 (.ops [
 ⟨(some 47), .move (.tmp 9), none⟩])
 (.block 2
 (.seq
 (.ops [
 ⟨(some 52), .bin .eql (.tmp 47) (.const (.int .i64 0)), none⟩,
 ⟨(some 51), .move (.tmp 52), none⟩])
 (.cond (.tmp 51)
 (.exit 0)
 (.seq
 (.ops [
 ⟨(some 54), .bin .eql (.tmp 47) (.const (.int .i64 65535)), none⟩,
 ⟨(some 53), .move (.tmp 54), none⟩])
 (.cond (.tmp 53)
 (.seq
 (.ops [
 ⟨(some 6), .move (.const (.int .i64 3)), none⟩])
 (.exit 0))
 (.ops [
 ⟨(some 48), .load 10 true (.tmp 2), none⟩,
 ⟨(some 49), .move (.tmp 9), none⟩,
 ⟨(some 50), .call 38 [(.tmp 48), (.tmp 49)], none⟩,
 ⟨(some 7), .move (.tmp 50), none⟩])))))))))))))))
 (.seq
 (.ops [
 ⟨(some 55), .load 5 true (.tmp 3), none⟩,
 ⟨(some 56), .move (.tmp 6), none⟩,
 ⟨none, .store 5 (.tmp 4) (.tmp 55), none⟩,
 ⟨(some 5), .move (.tmp 56), none⟩])
 .ret)))))))⟩
theorem t14_ok : goodFn Try.prog 14 = true ∧ cfn Try.prog 14 = t14 := ⟨by kernel_rfl, by kernel_rfl⟩
 /-- matchguard/matchguardref28.Parse -/
def t15 : NFn := ⟨68, [(.cell 4 5 true), (.tmp 5)],
 (.seq
 (.ops [
 ⟨(some 2), .box (.tmp 0), none⟩,
 ⟨(some 3), .box (.tmp 1), none⟩,
 ⟨(some 4), .alloc [(.slice none 0 (.fix 0)), (.slice none 0 (.fix 0)), (.slice none 0 (.fix 0)), (.int .i64 0), (.bool false)], none⟩,
 ⟨(some 5), .move (.const (.int .i64 0)), none⟩])
 (.seq
 (.draw 2 [
 ⟨0, ⟨(some 8), .bslice 0 [] [], none⟩, [], 0⟩,
 ⟨1, ⟨(some 9), .off (.tmp 3) 0, none⟩, [], 1⟩,
 ⟨2, ⟨(some 10), .load 1 false (.tmp 9), none⟩, [1], 1⟩,
 ⟨3, ⟨(some 11), .append 2 16 (.tmp 8) (.tmp 10), none⟩, [0, 2, 1], 1⟩,
 ⟨4, ⟨(some 12), .bslice 0 [] [], none⟩, [], 1⟩,
 ⟨5, ⟨(some 13), .off (.tmp 3) 1, none⟩, [], 2⟩,
 ⟨6, ⟨(some 14), .load 1 false (.tmp 13), none⟩, [5], 2⟩,
 ⟨7, ⟨(some 15), .append 1 1 (.tmp 12) (.tmp 14), none⟩, [4, 6, 5, 3, 0, 2, 1], 2⟩,
 ⟨8, ⟨(some 16), .off (.tmp 3) 0, none⟩, [0, 1, 2, 3, 6, 5, 7, 4], 2⟩,
 ⟨9, ⟨none, .store 1 (.tmp 16) (.tmp 11), none⟩, [8, 0, 1, 2, 3, 6, 5, 7, 4], 2⟩,
 ⟨10, ⟨(some 17), .off (.tmp 3) 1, none⟩, [0, 1, 2, 3, 4, 5, 6, 7, 8, 9], 2⟩,
 ⟨11, ⟨none, .store 1 (.tmp 17) (.tmp 15), none⟩, [10, 0, 1, 2, 3, 4, 5, 6, 7, 8, 9], 2⟩])
 (.seq
 (.seq
 (.ops [
 ⟨(some 18), .off (.tmp 2) 2, none⟩,
 ⟨(some 19), .load 1 false (.tmp 18), none⟩,
 ⟨(some 20), .lenSl (.tmp 19), none⟩,
 ⟨(some 21), .bin .eql (.tmp 20) (.const (.int .i64 0)), none⟩])
 (.cond (.tmp 21)
 (.seq
 (.ops [
 ⟨(some 22), .load 5 true (.tmp 3), none⟩,
 ⟨none, .store 5 (.tmp 4) (.tmp 22), none⟩,
 ⟨(some 5), .move (.const (.int .i64 0)), none⟩])
 .ret)
 .skip))
 (.seq
 (.ops [
 ⟨(some 23), .off (.tmp 2) 2, none⟩,
 ⟨(some 24), .load 1 false (.tmp 23), none⟩,
 ⟨(some 25), .idxSl (.tmp 24) (.const (.int .i64 0)) 5, none⟩,
 ⟨(some 26), .load 5 true (.tmp 25), none⟩,
 ⟨(some 6), .alloc [(.int .i64 0), (.int .i64 0), (.int .i64 0), (.slice none 0 (.fix 0)), (.int .i64 0)], none⟩,
 ⟨none, .store 5 (.tmp 6) (.tmp 26), none⟩])
 (.block 0
 (.loop
 (.block 1
 (.seq
 (.seq
 (.ops [
 ⟨(some 27), .off (.tmp 3) 3, none⟩,
 ⟨(some 28), .load 1 false (.tmp 27), none⟩,
 ⟨(some 29), .off (.tmp 2) 9, none⟩,
 ⟨(some 30), .load 1 false (.tmp 29), none⟩,
 ⟨(some 31), .bin .geq (.tmp 28) (.tmp 30), none⟩])
 (.cond (.tmp 31)
 (.seq
 (.ops [
 ⟨(some 32), .load 5 true (.tmp 3), none⟩,
 ⟨none, .store 5 (.tmp 4) (.tmp 32), none⟩,
 ⟨(some 5), .move (.const (.int .i64 4)), none⟩])
 .ret)
 .skip))
 (.seq
 (.ops [
 ⟨(some 33), .off (.tmp 3) 3, none⟩,
 ⟨(some 34), .load 1 false (.tmp 33), none⟩,
 ⟨(some 35), .bin .add (.tmp 34) (.const (.int .i64 1)), none⟩,
 ⟨(some 36), .off (.tmp 3) 3, none⟩,
 ⟨none, .store 1 (.tmp 36) (.tmp 35), none⟩])
 (.seq
 (.seq
 (.draw 0 [
 ⟨0, ⟨(some 37), .off (.tmp 6) 1, none⟩, [], 0⟩,
 ⟨1, ⟨(some 38), .load 1 false (.tmp 37), none⟩, [0], 0⟩,
 ⟨2, ⟨(some 39), .bin .neq (.tmp 38) (.const (.int .i64 0)), none⟩, [1, 0], 0⟩,
 ⟨3, ⟨(some 40), .move (.tmp 39), none⟩, [2, 1, 0], 0⟩,
 ⟨4, ⟨(some 41), .load 10 true (.tmp 2), (some (40, true))⟩, [3, 2, 1, 0], 0⟩,
 ⟨5, ⟨(some 42), .load 10 true (.tmp 2), (some (40, true))⟩, [3, 2, 1, 0], 0⟩,
 ⟨6, ⟨(some 43), .off (.tmp 6) 1, (some (40, true))⟩, [3, 2, 1, 0], 0⟩,
 ⟨7, ⟨(some 44), .load 1 false (.tmp 43), (some (40, true))⟩, [6, 3, 2, 1, 0], 0⟩,
 ⟨8, ⟨(some 45), .call 40 [(.tmp 42), (.tmp 44)], (some (40, true))⟩, [5, 3, 2, 1, 0, 7, 6], 0⟩,
 ⟨9, ⟨(some 46), .call 39 [(.tmp 41), (.tmp 3), (.tmp 45)], (some (40, true))⟩, [4, 3, 2, 1, 0, 8, 5, 7, 6], 0⟩,
 ⟨10, ⟨(some 47), .un .not (.tmp 46), (some (40, true))⟩, [9, 4, 3, 2, 1, 0, 8, 5, 7, 6], 0⟩,
 ⟨11, ⟨(some 48), .pick (.tmp 40) (.tmp 47) (.const (.bool false)), none⟩, [3, 2, 1, 0, 10, 9, 4, 8, 5, 7, 6], 0⟩])
 (.cond (.tmp 48)
 (.seq
 (.ops [
 ⟨(some 49), .load 5 true (.tmp 3), none⟩,
 ⟨none, .store 5 (.tmp 4) (.tmp 49), none⟩,
 ⟨(some 5), .move (.const (.int .i64 2)), none⟩])
 .ret)
 .skip))
 (.seq
 (.ops [
 ⟨(some 50), .load 10 true (.tmp 2), none⟩,
 ⟨(some 51), .load 5 true (.tmp 3), none⟩,
 ⟨(some 52), .load 5 true (.tmp 6), none⟩,
 ⟨(some 53), .call 41 [(.tmp 50), (.tmp 51), (.tmp 52)], none⟩,
 ⟨(some 7), .move (.tmp 53), none⟩])
 (.seq
 (.ops [
 ⟨(some 54), .move (.tmp 7), none⟩])
 (.block 2
 (.seq
 (.ops [
 ⟨(some 63), .bin .eql (.tmp 54) (.const (.int .i64 0)), none⟩,
 ⟨(some 62), .move (.tmp 63), none⟩])
 (.cond (.tmp 62)
 (.seq
 (.ops [
 ⟨(some 64), .load 5 true (.tmp 3), none⟩,
 ⟨none, .store 5 (.tmp 4) (.tmp 64), none⟩,
 ⟨(some 5), .move (.const (.int .i64 0)), none⟩])
 .ret)
 (.seq
 (.ops [
 ⟨(some 66), .bin .eql (.tmp 54) (.const (.int .i64 65535)), none⟩,
 ⟨(some 65), .move (.tmp 66), none⟩])
 (.cond (.tmp 65)
 (.seq
 (.ops [
 ⟨(some 67), .load 5 true (.tmp 3), none⟩,
 ⟨none, .store 5 (.tmp 4) (.tmp 67), none⟩,
 ⟨(some 5), .move (.const (.int .i64 3)), none⟩])
 .ret)
 (.draw 0 [
 ⟨0, ⟨(some 55), .off (.tmp 2) 2, none⟩, [], 0⟩,
 ⟨1, ⟨(some 56), .load 1 false (.tmp 55), none⟩, [0], 0⟩,
 ⟨2, ⟨(some 57), .load 10 true (.tmp 2), none⟩, [], 0⟩,
 ⟨3, ⟨(some 58), .move (.tmp 7), none⟩, [], 0⟩,
 ⟨4, ⟨(some 59), .call 42 [(.tmp 57), (.tmp 58)], none⟩, [2, 3], 0⟩,
 ⟨5, ⟨(some 60), .idxSl (.tmp 56) (.tmp 59) 5, none⟩, [1, 0, 4, 2, 3], 0⟩,
 ⟨6, ⟨(some 61), .load 5 true (.tmp 60), none⟩, [5, 1, 0, 4, 2, 3], 0⟩,
 ⟨7, ⟨none, .store 5 (.tmp 6) (.tmp 61), none⟩, [6, 5, 1, 0, 4, 2, 3], 0⟩]))))))))))))))))))⟩
theorem t15_ok : goodFn Try.prog 15 = true ∧ cfn Try.prog 15 = t15 := ⟨by kernel_rfl, by kernel_rfl⟩
 /-- matchguard/matchguardlaw28.begun -/
def t16 : NFn := ⟨58, [(.tmp 0)],
 (.seq
 (.ops [
 ⟨(some 0), .move (.const (.bool false)), none⟩])
 (.seq
 (.ops [
 ⟨(some 4), .call 7 [(.const (.slice none 0 (.fix 0))), (.const (.int .i64 0))], none⟩,
 ⟨(some 5), .call 8 [(.tmp 4)], none⟩,
 ⟨(some 1), .alloc [(.slice none 0 (.fix 0)), (.slice none 0 (.fix 0)), (.slice none 0 (.fix 0)), (.slice none 0 (.fix 0)), (.slice none 0 (.fix 0)), (.slice none 0 (.fix 0)), (.slice none 0 (.fix 0)), (.slice none 0 (.fix 0)), (.int .i64 0), (.int .i64 0)], none⟩,
 ⟨none, .store 10 (.tmp 1) (.tmp 5), none⟩])
 (.seq
 (.draw 2 [
 ⟨0, ⟨(some 7), .load 10 true (.tmp 1), none⟩, [], 0⟩,
 ⟨1, ⟨(some 8), .load 10 true (.tmp 1), none⟩, [], 0⟩,
 ⟨2, ⟨(some 9), .bslice 3 [(.int .u8 0), (.int .u8 0), (.int .u8 0)] [(0, 1, (.const (.int .u8 50))), (1, 1, (.const (.int .u8 52))), (2, 1, (.const (.int .u8 9)))], none⟩, [], 0⟩,
 ⟨3, ⟨(some 10), .call 10 [(.tmp 8), (.const (.int .i64 3)), (.tmp 9)], none⟩, [1, 2], 1⟩,
 ⟨4, ⟨(some 11), .call 14 [(.tmp 7), (.tmp 10)], none⟩, [0, 3, 1, 2], 1⟩,
 ⟨5, ⟨(some 6), .move (.tmp 11), none⟩, [4, 0, 3, 1, 2], 1⟩,
 ⟨6, ⟨(some 12), .extract (.tmp 6) 0, none⟩, [5, 4, 0, 3, 1, 2], 1⟩,
 ⟨7, ⟨(some 13), .extract (.tmp 6) 1, none⟩, [5, 4, 0, 3, 1, 2], 1⟩,
 ⟨8, ⟨(some 2), .alloc [(.slice none 0 (.fix 0)), (.slice none 0 (.fix 0)), (.slice none 0 (.fix 0)), (.int .i64 0), (.bool false)], none⟩, [], 1⟩,
 ⟨9, ⟨none, .store 5 (.tmp 2) (.tmp 12), none⟩, [8, 6, 5, 4, 0, 3, 1, 2], 2⟩,
 ⟨10, ⟨(some 3), .move (.tmp 13), none⟩, [7, 5, 4, 0, 3, 1, 2, 9, 8, 6], 2⟩])
 (.seq
 (.ops [
 ⟨(some 14), .move (.tmp 3), none⟩,
 ⟨(some 15), .bin .eql (.tmp 14) (.const (.int .i64 0)), none⟩,
 ⟨(some 16), .move (.tmp 15), none⟩,
 ⟨(some 17), .off (.tmp 2) 0, (some (16, true))⟩,
 ⟨(some 18), .load 1 false (.tmp 17), (some (16, true))⟩,
 ⟨(some 19), .lenSl (.tmp 18), (some (16, true))⟩,
 ⟨(some 20), .bin .eql (.tmp 19) (.const (.int .i64 9)), (some (16, true))⟩,
 ⟨(some 21), .pick (.tmp 16) (.tmp 20) (.const (.bool false)), none⟩,
 ⟨(some 22), .move (.tmp 21), none⟩,
 ⟨(some 23), .off (.tmp 2) 0, (some (22, true))⟩,
 ⟨(some 24), .load 1 false (.tmp 23), (some (22, true))⟩,
 ⟨(some 25), .idxSl (.tmp 24) (.const (.int .i64 3)) 2, (some (22, true))⟩,
 ⟨(some 26), .off (.tmp 25) 1, (some (22, true))⟩,
 ⟨(some 27), .load 1 false (.tmp 26), (some (22, true))⟩,
 ⟨(some 28), .bin .eql (.tmp 27) (.const (.int .u64 3)), (some (22, true))⟩,
 ⟨(some 29), .pick (.tmp 22) (.tmp 28) (.const (.bool false)), none⟩,
 ⟨(some 30), .move (.tmp 29), none⟩,
 ⟨(some 31), .off (.tmp 2) 0, (some (30, true))⟩,
 ⟨(some 32), .load 1 false (.tmp 31), (some (30, true))⟩,
 ⟨(some 33), .idxSl (.tmp 32) (.const (.int .i64 4)) 2, (some (30, true))⟩,
 ⟨(some 34), .off (.tmp 33) 1, (some (30, true))⟩,
 ⟨(some 35), .load 1 false (.tmp 34), (some (30, true))⟩,
 ⟨(some 36), .bin .eql (.tmp 35) (.const (.int .u64 2)), (some (30, true))⟩,
 ⟨(some 37), .pick (.tmp 30) (.tmp 36) (.const (.bool false)), none⟩,
 ⟨(some 38), .move (.tmp 37), none⟩,
 ⟨(some 39), .off (.tmp 2) 0, (some (38, true))⟩,
 ⟨(some 40), .load 1 false (.tmp 39), (some (38, true))⟩,
 ⟨(some 41), .idxSl (.tmp 40) (.const (.int .i64 5)) 2, (some (38, true))⟩,
 ⟨(some 42), .off (.tmp 41) 1, (some (38, true))⟩,
 ⟨(some 43), .load 1 false (.tmp 42), (some (38, true))⟩,
 ⟨(some 44), .bin .eql (.tmp 43) (.const (.int .u64 52)), (some (38, true))⟩,
 ⟨(some 45), .pick (.tmp 38) (.tmp 44) (.const (.bool false)), none⟩,
 ⟨(some 46), .move (.tmp 45), none⟩,
 ⟨(some 47), .off (.tmp 2) 2, (some (46, true))⟩,
 ⟨(some 48), .load 1 false (.tmp 47), (some (46, true))⟩,
 ⟨(some 49), .lenSl (.tmp 48), (some (46, true))⟩,
 ⟨(some 50), .bin .eql (.tmp 49) (.const (.int .i64 1)), (some (46, true))⟩,
 ⟨(some 51), .pick (.tmp 46) (.tmp 50) (.const (.bool false)), none⟩,
 ⟨(some 52), .move (.tmp 51), none⟩,
 ⟨(some 53), .off (.tmp 2) 1, (some (52, true))⟩,
 ⟨(some 54), .load 1 false (.tmp 53), (some (52, true))⟩,
 ⟨(some 55), .idxSl (.tmp 54) (.const (.int .i64 0)) 1, (some (52, true))⟩,
 ⟨(some 56), .load 1 false (.tmp 55), (some (52, true))⟩,
 ⟨(some 57), .pick (.tmp 52) (.tmp 56) (.const (.bool false)), none⟩,
 ⟨(some 0), .move (.tmp 57), none⟩])
 .ret))))⟩
theorem t16_ok : goodFn Try.prog 16 = true ∧ cfn Try.prog 16 = t16 := ⟨by kernel_rfl, by kernel_rfl⟩
 /-- matchguard/matchguardref04.FieldOf -/
def t23 : NFn := ⟨10, [(.tmp 4)],
 (.seq
 (.ops [
 ⟨(some 2), .box (.tmp 0), none⟩,
 ⟨(some 4), .move (.const (.int .i64 0)), none⟩])
 (.seq
 (.ops [
 ⟨(some 5), .load 10 true (.tmp 2), none⟩,
 ⟨(some 6), .call 48 [(.tmp 5)], none⟩,
 ⟨(some 7), .indexv (.tmp 6) (.const (.int .i64 0)) 6 1 false, none⟩,
 ⟨(some 8), .move (.tmp 1), none⟩,
 ⟨(some 9), .call 47 [(.tmp 7), (.tmp 8)], none⟩,
 ⟨(some 4), .move (.tmp 9), none⟩])
 .ret))⟩
theorem t23_ok : goodFn Try.prog 23 = true ∧ cfn Try.prog 23 = t23 := ⟨by kernel_rfl, by kernel_rfl⟩
 /-- (*matchguard/matchguardcase.Codes).Next -/
def t24 : NFn := ⟨33, [(.tmp 4)],
 (.seq
 (.ops [
 ⟨(some 4), .move (.const (.int .i64 0)), none⟩])
 (.seq
 (.seq
 (.ops [
 ⟨(some 5), .move (.tmp 0), none⟩,
 ⟨(some 6), .call 49 [(.tmp 5)], none⟩,
 ⟨(some 7), .un .not (.tmp 6), none⟩,
 ⟨(some 8), .move (.tmp 7), none⟩,
 ⟨(some 9), .move (.tmp 1), (some (8, false))⟩,
 ⟨(some 10), .bin .lss (.tmp 9) (.const (.int .i64 1)), (some (8, false))⟩,
 ⟨(some 11), .pick (.tmp 8) (.const (.bool true)) (.tmp 10), none⟩])
 (.cond (.tmp 11)
 (.seq
 (.ops [
 ⟨(some 4), .move (.const (.int .i64 0)), none⟩])
 .ret)
 .skip))
 (.seq
 (.ops [
 ⟨(some 12), .move (.tmp 0), none⟩,
 ⟨(some 13), .nilCheck (.tmp 12), none⟩,
 ⟨(some 14), .off (.tmp 13) 1, none⟩,
 ⟨(some 15), .load 1 false (.tmp 14), none⟩,
 ⟨(some 16), .bin .add (.tmp 15) (.const (.int .i64 1)), none⟩,
 ⟨(some 17), .nilCheck (.tmp 12), none⟩,
 ⟨(some 18), .off (.tmp 17) 1, none⟩,
 ⟨none, .store 1 (.tmp 18) (.tmp 16), none⟩])
 (.seq
 (.draw 0 [
 ⟨0, ⟨(some 19), .move (.tmp 0), none⟩, [], 0⟩,
 ⟨1, ⟨(some 20), .nilCheck (.tmp 19), none⟩, [0], 0⟩,
 ⟨2, ⟨(some 21), .off (.tmp 20) 0, none⟩, [1, 0], 0⟩,
 ⟨3, ⟨(some 22), .load 1 false (.tmp 21), none⟩, [2, 1, 0], 0⟩,
 ⟨4, ⟨(some 23), .move (.tmp 0), none⟩, [], 0⟩,
 ⟨5, ⟨(some 24), .nilCheck (.tmp 23), none⟩, [4], 0⟩,
 ⟨6, ⟨(some 25), .off (.tmp 24) 1, none⟩, [5, 4], 0⟩,
 ⟨7, ⟨(some 26), .load 1 false (.tmp 25), none⟩, [6, 5, 4], 0⟩,
 ⟨8, ⟨(some 27), .bin .sub (.tmp 26) (.const (.int .i64 1)), none⟩, [7, 6, 5, 4], 0⟩,
 ⟨9, ⟨(some 28), .idxSl (.tmp 22) (.tmp 27) 1, none⟩, [3, 2, 1, 0, 8, 7, 6, 5, 4], 0⟩,
 ⟨10, ⟨(some 29), .load 1 false (.tmp 28), none⟩, [9, 3, 2, 1, 0, 8, 7, 6, 5, 4], 0⟩,
 ⟨11, ⟨(some 30), .conv .i64 (.tmp 29), none⟩, [10, 9, 3, 2, 1, 0, 8, 7, 6, 5, 4], 0⟩,
 ⟨12, ⟨(some 31), .move (.tmp 1), none⟩, [], 0⟩,
 ⟨13, ⟨(some 32), .bin .rem (.tmp 30) (.tmp 31), none⟩, [11, 10, 9, 3, 2, 1, 0, 8, 7, 6, 5, 4, 12], 0⟩,
 ⟨14, ⟨(some 4), .move (.tmp 32), none⟩, [13, 11, 10, 9, 3, 2, 1, 0, 8, 7, 6, 5, 4, 12], 0⟩])
 .ret))))⟩
theorem t24_ok : goodFn Try.prog 24 = true ∧ cfn Try.prog 24 = t24 := ⟨by kernel_rfl, by kernel_rfl⟩
 /-- (*matchguard/matchguardcase.Codes).states -/
def t25 : NFn := ⟨63, [(.tmp 2)],
 (.seq
 (.ops [
 ⟨(some 2), .move (.const (.slice none 0 (.fix 0))), none⟩])
 (.seq
 (.ops [
 ⟨(some 7), .bslice 4 [(.int .i64 0), (.int .i64 0), (.int .i64 0), (.int .i64 0)] [(0, 1, (.const (.int .i64 0))), (1, 1, (.const (.int .i64 0))), (2, 1, (.const (.int .i64 65535))), (3, 1, (.const (.int .i64 3)))], none⟩,
 ⟨(some 3), .move (.tmp 7), none⟩])
 (.seq
 (.ops [
 ⟨(some 8), .move (.tmp 3), none⟩,
 ⟨(some 9), .move (.tmp 0), none⟩,
 ⟨(some 10), .call 24 [(.tmp 9), (.const (.int .i64 4))], none⟩,
 ⟨(some 11), .idxSl (.tmp 8) (.tmp 10) 1, none⟩,
 ⟨(some 12), .load 1 false (.tmp 11), none⟩,
 ⟨(some 13), .build [(.int .i64 0), (.int .i64 0), (.int .i64 0), (.slice none 0 (.fix 0)), (.int .i64 0)] [(0, 1, (.const (.int .i64 1))), (1, 1, (.const (.int .i64 1))), (2, 1, (.const (.int .i64 4))), (4, 1, (.tmp 12))], none⟩,
 ⟨(some 4), .alloc [(.int .i64 0), (.int .i64 0), (.int .i64 0), (.slice none 0 (.fix 0)), (.int .i64 0)], none⟩,
 ⟨none, .store 5 (.tmp 4) (.tmp 13), none⟩])
 (.seq
 (.ops [
 ⟨(some 14), .build [(.int .u64 0), (.int .u64 0)] [(1, 1, (.const (.int .u64 1)))], none⟩,
 ⟨(some 15), .build [(.int .u64 0), (.int .u64 0)] [(1, 1, (.const (.int .u64 15)))], none⟩,
 ⟨(some 16), .build [(.int .u64 0), (.int .u64 0), (.int .u64 0), (.int .u64 0), (.int .i64 0)] [(0, 2, (.tmp 14)), (2, 2, (.tmp 15)), (4, 1, (.const (.int .i64 2)))], none⟩,
 ⟨(some 17), .build [(.int .u64 0), (.int .u64 0)] [(1, 1, (.const (.int .u64 2)))], none⟩,
 ⟨(some 18), .build [(.int .u64 0), (.int .u64 0)] [(1, 1, (.const (.int .u64 3)))], none⟩,
 ⟨(some 19), .build [(.int .u64 0), (.int .u64 0), (.int .u64 0), (.int .u64 0), (.int .i64 0)] [(0, 2, (.tmp 17)), (2, 2, (.tmp 18)), (4, 1, (.const (.int .i64 3)))], none⟩,
 ⟨(some 20), .bslice 2 [(.int .u64 0), (.int .u64 0), (.int .u64 0), (.int .u64 0), (.int .i64 0), (.int .u64 0), (.int .u64 0), (.int .u64 0), (.int .u64 0), (.int .i64 0)] [(0, 5, (.tmp 16)), (5, 5, (.tmp 19))], none⟩,
 ⟨(some 21), .off (.tmp 4) 3, none⟩,
 ⟨none, .store 1 (.tmp 21) (.tmp 20), none⟩])
 (.seq
 (.seq
 (.ops [
 ⟨(some 22), .move (.tmp 0), none⟩,
 ⟨(some 23), .call 29 [(.tmp 22)], none⟩])
 (.cond (.tmp 23)
 (.draw 1 [
 ⟨0, ⟨(some 24), .off (.tmp 4) 3, none⟩, [], 0⟩,
 ⟨1, ⟨(some 25), .load 1 false (.tmp 24), none⟩, [0], 0⟩,
 ⟨2, ⟨(some 26), .move (.tmp 0), none⟩, [], 0⟩,
 ⟨3, ⟨(some 27), .call 24 [(.tmp 26), (.const (.int .i64 2))], none⟩, [2], 0⟩,
 ⟨4, ⟨(some 28), .bin .mul (.const (.int .i64 8)) (.tmp 27), none⟩, [3, 2], 0⟩,
 ⟨5, ⟨(some 29), .conv .u64 (.tmp 28), none⟩, [4, 3, 2], 0⟩,
 ⟨6, ⟨(some 30), .build [(.int .u64 0), (.int .u64 0)] [(1, 1, (.tmp 29))], none⟩, [5, 4, 3, 2], 0⟩,
 ⟨7, ⟨(some 31), .build [(.int .u64 0), (.int .u64 0)] [(1, 1, (.const (.int .u64 8)))], none⟩, [], 0⟩,
 ⟨8, ⟨(some 32), .move (.tmp 3), none⟩, [], 0⟩,
 ⟨9, ⟨(some 33), .move (.tmp 0), none⟩, [], 0⟩,
 ⟨10, ⟨(some 34), .call 24 [(.tmp 33), (.const (.int .i64 4))], none⟩, [9, 3, 2], 0⟩,
 ⟨11, ⟨(some 35), .idxSl (.tmp 32) (.tmp 34) 1, none⟩, [8, 10, 9, 3, 2], 0⟩,
 ⟨12, ⟨(some 36), .load 1 false (.tmp 35), none⟩, [11, 8, 10, 9, 3, 2], 0⟩,
 ⟨13, ⟨(some 37), .build [(.int .u64 0), (.int .u64 0), (.int .u64 0), (.int .u64 0), (.int .i64 0)] [(0, 2, (.tmp 30)), (2, 2, (.tmp 31)), (4, 1, (.tmp 36))], none⟩, [6, 5, 4, 3, 2, 7, 12, 11, 8, 10, 9], 0⟩,
 ⟨14, ⟨(some 38), .bslice 1 [(.int .u64 0), (.int .u64 0), (.int .u64 0), (.int .u64 0), (.int .i64 0)] [(0, 5, (.tmp 37))], none⟩, [13, 6, 5, 4, 3, 2, 7, 12, 11, 8, 10, 9], 0⟩,
 ⟨15, ⟨(some 39), .append 5 40 (.tmp 25) (.tmp 38), none⟩, [1, 0, 14, 13, 6, 5, 4, 3, 2, 7, 12, 11, 8, 10, 9], 1⟩,
 ⟨16, ⟨(some 40), .off (.tmp 4) 3, none⟩, [0, 1, 2, 3, 4, 5, 6, 7, 8, 9, 10, 11, 12, 13, 14, 15], 1⟩,
 ⟨17, ⟨none, .store 1 (.tmp 40) (.tmp 39), none⟩, [16, 0, 1, 2, 3, 4, 5, 6, 7, 8, 9, 10, 11, 12, 13, 14, 15], 1⟩])
 .skip))
 (.seq
 (.ops [
 ⟨(some 41), .move (.tmp 3), none⟩,
 ⟨(some 42), .move (.tmp 0), none⟩,
 ⟨(some 43), .call 24 [(.tmp 42), (.const (.int .i64 4))], none⟩,
 ⟨(some 44), .idxSl (.tmp 41) (.tmp 43) 1, none⟩,
 ⟨(some 45), .load 1 false (.tmp 44), none⟩,
 ⟨(some 46), .build [(.int .i64 0), (.int .i64 0), (.int .i64 0), (.slice none 0 (.fix 0)), (.int .i64 0)] [(0, 1, (.const (.int .i64 2))), (1, 1, (.const (.int .i64 2))), (4, 1, (.tmp 45))], none⟩,
 ⟨(some 5), .alloc [(.int .i64 0), (.int .i64 0), (.int .i64 0), (.slice none 0 (.fix 0)), (.int .i64 0)], none⟩,
 ⟨none, .store 5 (.tmp 5) (.tmp 46), none⟩])
 (.seq
 (.ops [
 ⟨(some 47), .build [(.int .i64 0), (.int .i64 0), (.int .i64 0), (.slice none 0 (.fix 0)), (.int .i64 0)] [(0, 1, (.const (.int .i64 3))), (1, 1, (.const (.int .i64 3))), (2, 1, (.const (.int .i64 9))), (4, 1, (.const (.int .i64 0)))], none⟩,
 ⟨(some 6), .alloc [(.int .i64 0), (.int .i64 0), (.int .i64 0), (.slice none 0 (.fix 0)), (.int .i64 0)], none⟩,
 ⟨none, .store 5 (.tmp 6) (.tmp 47), none⟩])
 (.seq
 (.seq
 (.ops [
 ⟨(some 48), .move (.tmp 0), none⟩,
 ⟨(some 49), .call 24 [(.tmp 48), (.const (.int .i64 3))], none⟩,
 ⟨(some 50), .bin .eql (.tmp 49) (.const (.int .i64 1)), none⟩])
 (.cond (.tmp 50)
 (.ops [
 ⟨(some 51), .build [(.int .u64 0), (.int .u64 0)] [(1, 1, (.const (.int .u64 5)))], none⟩,
 ⟨(some 52), .build [(.int .u64 0), (.int .u64 0)] [(1, 1, (.const (.int .u64 15)))], none⟩,
 ⟨(some 53), .move (.tmp 0), none⟩,
 ⟨(some 54), .call 24 [(.tmp 53), (.const (.int .i64 3))], none⟩,
 ⟨(some 55), .bin .add (.const (.int .i64 1)) (.tmp 54), none⟩,
 ⟨(some 56), .build [(.int .u64 0), (.int .u64 0), (.int .u64 0), (.int .u64 0), (.int .i64 0)] [(0, 2, (.tmp 51)), (2, 2, (.tmp 52)), (4, 1, (.tmp 55))], none⟩,
 ⟨(some 57), .bslice 1 [(.int .u64 0), (.int .u64 0), (.int .u64 0), (.int .u64 0), (.int .i64 0)] [(0, 5, (.tmp 56))], none⟩,
 ⟨(some 58), .off (.tmp 6) 3, none⟩,
 ⟨none, .store 1 (.tmp 58) (.tmp 57), none⟩])
 .skip))
 (.seq
 (.ops [
 ⟨(some 59), .load 5 true (.tmp 4), none⟩,
 ⟨(some 60), .load 5 true (.tmp 5), none⟩,
 ⟨(some 61), .load 5 true (.tmp 6), none⟩,
 ⟨(some 62), .bslice 3 [(.int .i64 0), (.int .i64 0), (.int .i64 0), (.slice none 0 (.fix 0)), (.int .i64 0), (.int .i64 0), (.int .i64 0), (.int .i64 0), (.slice none 0 (.fix 0)), (.int .i64 0), (.int .i64 0), (.int .i64 0), (.int .i64 0), (.slice none 0 (.fix 0)), (.int .i64 0)] [(0, 5, (.tmp 59)), (5, 5, (.tmp 60)), (10, 5, (.tmp 61))], none⟩,
 ⟨(some 2), .move (.tmp 62), none⟩])
 .ret)))))))))⟩
theorem t25_ok : goodFn Try.prog 25 = true ∧ cfn Try.prog 25 = t25 := ⟨by kernel_rfl, by kernel_rfl⟩
 /-- (*matchguard/matchguardcase.Codes).actions -/
def t26 : NFn := ⟨58, [(.tmp 2)],
 (.seq
 (.ops [
 ⟨(some 2), .move (.const (.slice none 0 (.fix 0))), none⟩])
 (.seq
 (.ops [
 ⟨(some 5), .build [(.int .i64 0), (.int .i64 0), (.int .u64 0), (.int .u64 0)] [(0, 1, (.const (.int .i64 3)))], none⟩,
 ⟨(some 3), .alloc [(.int .i64 0), (.int .i64 0), (.int .u64 0), (.int .u64 0)], none⟩,
 ⟨none, .store 4 (.tmp 3) (.tmp 5), none⟩])
 (.seq
 (.draw 9 [
 ⟨0, ⟨(some 6), .build [(.int .i64 0), (.str ⟨#[]⟩), (.slice none 0 (.fix 0)), (.slice none 0 (.fix 0)), (.str ⟨#[]⟩)] [(0, 1, (.const (.int .i64 1))), (1, 1, (.const (.str ⟨#[110, 111, 112]⟩)))], none⟩, [], 0⟩,
 ⟨1, ⟨(some 7), .build [(.int .i64 0), (.int .i64 0), (.int .i64 0), (.int .i64 0), (.int .u64 0), (.int .u64 0)] [(0, 1, (.const (.int .i64 6)))], none⟩, [], 0⟩,
 ⟨2, ⟨(some 8), .bslice 1 [(.int .i64 0), (.int .i64 0), (.int .i64 0), (.int .i64 0), (.int .u64 0), (.int .u64 0)] [(0, 6, (.tmp 7))], none⟩, [1], 0⟩,
 ⟨3, ⟨(some 9), .build [(.int .i64 0), (.str ⟨#[]⟩), (.slice none 0 (.fix 0)), (.slice none 0 (.fix 0)), (.str ⟨#[]⟩)] [(0, 1, (.const (.int .i64 2))), (1, 1, (.const (.str ⟨#[100, 114, 111, 112]⟩))), (3, 1, (.tmp 8))], none⟩, [2, 1], 1⟩,
 ⟨4, ⟨(some 10), .build [(.str ⟨#[]⟩), (.int .i64 0)] [(0, 1, (.const (.str ⟨#[112, 111, 114, 116]⟩))), (1, 1, (.const (.int .i64 16)))], none⟩, [], 1⟩,
 ⟨5, ⟨(some 11), .bslice 1 [(.str ⟨#[]⟩), (.int .i64 0)] [(0, 2, (.tmp 10))], none⟩, [4], 1⟩,
 ⟨6, ⟨(some 12), .load 4 true (.tmp 3), none⟩, [], 2⟩,
 ⟨7, ⟨(some 13), .build [(.int .i64 0), (.int .i64 0), (.int .i64 0), (.int .i64 0), (.int .u64 0), (.int .u64 0)] [(0, 1, (.const (.int .i64 7))), (2, 4, (.tmp 12))], none⟩, [6], 2⟩,
 ⟨8, ⟨(some 14), .bslice 1 [(.int .i64 0), (.int .i64 0), (.int .i64 0), (.int .i64 0), (.int .u64 0), (.int .u64 0)] [(0, 6, (.tmp 13))], none⟩, [7, 6], 2⟩,
 ⟨9, ⟨(some 15), .build [(.int .i64 0), (.str ⟨#[]⟩), (.slice none 0 (.fix 0)), (.slice none 0 (.fix 0)), (.str ⟨#[]⟩)] [(0, 1, (.const (.int .i64 3))), (1, 1, (.const (.str ⟨#[102, 111, 114, 119, 97, 114, 100]⟩))), (2, 1, (.tmp 11)), (3, 1, (.tmp 14))], none⟩, [5, 4, 8, 7, 6], 3⟩,
 ⟨10, ⟨(some 16), .build [(.str ⟨#[]⟩), (.int .i64 0)] [(0, 1, (.const (.str ⟨#[120]⟩))), (1, 1, (.const (.int .i64 4)))], none⟩, [], 3⟩,
 ⟨11, ⟨(some 17), .bslice 1 [(.str ⟨#[]⟩), (.int .i64 0)] [(0, 2, (.tmp 16))], none⟩, [10], 3⟩,
 ⟨12, ⟨(some 18), .load 4 true (.tmp 3), none⟩, [], 4⟩,
 ⟨13, ⟨(some 19), .build [(.int .i64 0), (.int .i64 0), (.int .i64 0), (.int .i64 0), (.int .u64 0), (.int .u64 0)] [(0, 1, (.const (.int .i64 1))), (1, 1, (.const (.int .i64 5))), (2, 4, (.tmp 18))], none⟩, [12], 4⟩,
 ⟨14, ⟨(some 20), .build [(.int .i64 0), (.int .i64 0), (.int .u64 0), (.int .u64 0)] [(0, 1, (.const (.int .i64 2))), (1, 1, (.const (.int .i64 5)))], none⟩, [], 4⟩,
 ⟨15, ⟨(some 21), .build [(.int .i64 0), (.int .i64 0), (.int .i64 0), (.int .i64 0), (.int .u64 0), (.int .u64 0)] [(0, 1, (.const (.int .i64 2))), (1, 1, (.const (.int .i64 3))), (2, 4, (.tmp 20))], none⟩, [14], 4⟩,
 ⟨16, ⟨(some 22), .bslice 2 [(.int .i64 0), (.int .i64 0), (.int .i64 0), (.int .i64 0), (.int .u64 0), (.int .u64 0), (.int .i64 0), (.int .i64 0), (.int .i64 0), (.int .i64 0), (.int .u64 0), (.int .u64 0)] [(0, 6, (.tmp 19)), (6, 6, (.tmp 21))], none⟩, [13, 12, 15, 14], 4⟩,
 ⟨17, ⟨(some 23), .build [(.int .i64 0), (.str ⟨#[]⟩), (.slice none 0 (.fix 0)), (.slice none 0 (.fix 0)), (.str ⟨#[]⟩)] [(0, 1, (.const (.int .i64 4))), (1, 1, (.const (.str ⟨#[116, 97, 103]⟩))), (2, 1, (.tmp 17)), (3, 1, (.tmp 22))], none⟩, [11, 10, 16, 13, 12, 15, 14], 5⟩,
 ⟨18, ⟨(some 24), .build [(.str ⟨#[]⟩), (.int .i64 0)] [(0, 1, (.const (.str ⟨#[120]⟩))), (1, 1, (.const (.int .i64 4)))], none⟩, [], 5⟩,
 ⟨19, ⟨(some 25), .build [(.str ⟨#[]⟩), (.int .i64 0)] [(0, 1, (.const (.str ⟨#[121]⟩))), (1, 1, (.const (.int .i64 12)))], none⟩, [], 5⟩,
 ⟨20, ⟨(some 26), .bslice 2 [(.str ⟨#[]⟩), (.int .i64 0), (.str ⟨#[]⟩), (.int .i64 0)] [(0, 2, (.tmp 24)), (2, 2, (.tmp 25))], none⟩, [18, 19], 5⟩,
 ⟨21, ⟨(some 27), .build [(.int .i64 0), (.int .i64 0), (.int .i64 0), (.int .i64 0), (.int .u64 0), (.int .u64 0)] [(0, 1, (.const (.int .i64 4))), (1, 1, (.const (.int .i64 3)))], none⟩, [], 6⟩,
 ⟨22, ⟨(some 28), .load 4 true (.tmp 3), none⟩, [], 6⟩,
 ⟨23, ⟨(some 29), .build [(.int .i64 0), (.int .i64 0), (.int .i64 0), (.int .i64 0), (.int .u64 0), (.int .u64 0)] [(0, 1, (.const (.int .i64 1))), (1, 1, (.const (.int .i64 9))), (2, 4, (.tmp 28))], none⟩, [22], 6⟩,
 ⟨24, ⟨(some 30), .build [(.int .i64 0), (.int .i64 0), (.int .u64 0), (.int .u64 0)] [(0, 1, (.const (.int .i64 3))), (1, 1, (.const (.int .i64 1)))], none⟩, [], 6⟩,
 ⟨25, ⟨(some 31), .build [(.int .i64 0), (.int .i64 0), (.int .i64 0), (.int .i64 0), (.int .u64 0), (.int .u64 0)] [(0, 1, (.const (.int .i64 3))), (1, 1, (.const (.int .i64 8))), (2, 4, (.tmp 30))], none⟩, [24], 6⟩,
 ⟨26, ⟨(some 32), .bslice 3 [(.int .i64 0), (.int .i64 0), (.int .i64 0), (.int .i64 0), (.int .u64 0), (.int .u64 0), (.int .i64 0), (.int .i64 0), (.int .i64 0), (.int .i64 0), (.int .u64 0), (.int .u64 0), (.int .i64 0), (.int .i64 0), (.int .i64 0), (.int .i64 0), (.int .u64 0), (.int .u64 0)] [(0, 6, (.tmp 27)), (6, 6, (.tmp 29)), (12, 6, (.tmp 31))], none⟩, [21, 23, 22, 25, 24], 6⟩,
 ⟨27, ⟨(some 33), .build [(.int .i64 0), (.str ⟨#[]⟩), (.slice none 0 (.fix 0)), (.slice none 0 (.fix 0)), (.str ⟨#[]⟩)] [(0, 1, (.const (.int .i64 5))), (1, 1, (.const (.str ⟨#[119, 114, 97, 112]⟩))), (2, 1, (.tmp 26)), (3, 1, (.tmp 32))], none⟩, [20, 18, 19, 26, 21, 23, 22, 25, 24], 7⟩,
 ⟨28, ⟨(some 34), .move (.tmp 0), none⟩, [], 7⟩,
 ⟨29, ⟨(some 35), .call 24 [(.tmp 34), (.const (.int .i64 2))], none⟩, [28], 7⟩,
 ⟨30, ⟨(some 36), .bin .add (.const (.int .i64 2)) (.tmp 35), none⟩, [29, 28], 7⟩,
 ⟨31, ⟨(some 37), .build [(.int .i64 0), (.int .i64 0), (.int .i64 0), (.int .i64 0), (.int .u64 0), (.int .u64 0)] [(0, 1, (.const (.int .i64 5))), (1, 1, (.tmp 36))], none⟩, [30, 29, 28], 7⟩,
 ⟨32, ⟨(some 38), .move (.tmp 0), none⟩, [], 7⟩,
 ⟨33, ⟨(some 39), .call 24 [(.tmp 38), (.const (.int .i64 256))], none⟩, [32, 29, 28], 7⟩,
 ⟨34, ⟨(some 40), .conv .u64 (.tmp 39), none⟩, [33, 32, 29, 28], 7⟩,
 ⟨35, ⟨(some 41), .build [(.int .u64 0), (.int .u64 0)] [(1, 1, (.tmp 40))], none⟩, [34, 33, 32, 29, 28], 7⟩,
 ⟨36, ⟨(some 42), .build [(.int .i64 0), (.int .i64 0), (.int .u64 0), (.int .u64 0)] [(0, 1, (.const (.int .i64 1))), (2, 2, (.tmp 41))], none⟩, [35, 34, 33, 32, 29, 28], 7⟩,
 ⟨37, ⟨(some 43), .build [(.int .i64 0), (.int .i64 0), (.int .i64 0), (.int .i64 0), (.int .u64 0), (.int .u64 0)] [(0, 1, (.const (.int .i64 2))), (1, 1, (.const (.int .i64 6))), (2, 4, (.tmp 42))], none⟩, [36, 35, 34, 33, 32, 29, 28], 7⟩,
 ⟨38, ⟨(some 44), .bslice 2 [(.int .i64 0), (.int .i64 0), (.int .i64 0), (.int .i64 0), (.int .u64 0), (.int .u64 0), (.int .i64 0), (.int .i64 0), (.int .i64 0), (.int .i64 0), (.int .u64 0), (.int .u64 0)] [(0, 6, (.tmp 37)), (6, 6, (.tmp 43))], none⟩, [31, 30, 29, 28, 37, 36, 35, 34, 33, 32], 7⟩,
 ⟨39, ⟨(some 45), .build [(.int .i64 0), (.str ⟨#[]⟩), (.slice none 0 (.fix 0)), (.slice none 0 (.fix 0)), (.str ⟨#[]⟩)] [(0, 1, (.const (.int .i64 6))), (1, 1, (.const (.str ⟨#[115, 116, 114, 105, 112]⟩))), (3, 1, (.tmp 44))], none⟩, [38, 31, 30, 29, 28, 37, 36, 35, 34, 33, 32], 8⟩,
 ⟨40, ⟨(some 46), .bslice 6 [(.int .i64 0), (.str ⟨#[]⟩), (.slice none 0 (.fix 0)), (.slice none 0 (.fix 0)), (.str ⟨#[]⟩), (.int .i64 0), (.str ⟨#[]⟩), (.slice none 0 (.fix 0)), (.slice none 0 (.fix 0)), (.str ⟨#[]⟩), (.int .i64 0), (.str ⟨#[]⟩), (.slice none 0 (.fix 0)), (.slice none 0 (.fix 0)), (.str ⟨#[]⟩), (.int .i64 0), (.str ⟨#[]⟩), (.slice none 0 (.fix 0)), (.slice none 0 (.fix 0)), (.str ⟨#[]⟩), (.int .i64 0), (.str ⟨#[]⟩), (.slice none 0 (.fix 0)), (.slice none 0 (.fix 0)), (.str ⟨#[]⟩), (.int .i64 0), (.str ⟨#[]⟩), (.slice none 0 (.fix 0)), (.slice none 0 (.fix 0)), (.str ⟨#[]⟩)] [(0, 5, (.tmp 6)), (5, 5, (.tmp 9)), (10, 5, (.tmp 15)), (15, 5, (.tmp 23)), (20, 5, (.tmp 33)), (25, 5, (.tmp 45))], none⟩, [0, 3, 2, 1, 9, 5, 4, 8, 7, 6, 17, 11, 10, 16, 13, 12, 15, 14, 27, 20, 18, 19, 26, 21, 23, 22, 25, 24, 39, 38, 31, 30, 29, 28, 37, 36, 35, 34, 33, 32], 8⟩,
 ⟨41, ⟨(some 4), .move (.tmp 46), none⟩, [40, 0, 3, 2, 1, 9, 5, 4, 8, 7, 6, 17, 11, 10, 16, 13, 12, 15, 14, 27, 20, 18, 19, 26, 21, 23, 22, 25, 24, 39, 38, 31, 30, 29, 28, 37, 36, 35, 34, 33, 32], 9⟩])
 (.seq
 (.seq
 (.ops [
 ⟨(some 47), .move (.tmp 0), none⟩,
 ⟨(some 48), .call 29 [(.tmp 47)], none⟩])
 (.cond (.tmp 48)
 (.ops [
 ⟨(some 49), .move (.tmp 4), none⟩,
 ⟨(some 50), .idxSl (.tmp 49) (.const (.int .i64 2)) 5, none⟩,
 ⟨(some 51), .off (.tmp 50) 4, none⟩,
 ⟨none, .store 1 (.tmp 51) (.const (.str ⟨#[112, 111, 114, 116, 32, 33, 61, 32, 48]⟩)), none⟩])
 .skip))
 (.seq
 (.seq
 (.ops [
 ⟨(some 52), .move (.tmp 0), none⟩,
 ⟨(some 53), .call 29 [(.tmp 52)], none⟩])
 (.cond (.tmp 53)
 (.ops [
 ⟨(some 54), .move (.tmp 4), none⟩,
 ⟨(some 55), .idxSl (.tmp 54) (.const (.int .i64 4)) 5, none⟩,
 ⟨(some 56), .off (.tmp 55) 4, none⟩,
 ⟨none, .store 1 (.tmp 56) (.const (.str ⟨#[120, 32, 60, 32, 121, 32, 124, 124, 32, 120, 32, 61, 61, 32, 49, 53]⟩)), none⟩])
 .skip))
 (.seq
 (.ops [
 ⟨(some 57), .move (.tmp 4), none⟩,
 ⟨(some 2), .move (.tmp 57), none⟩])
 .ret))))))⟩
theorem t26_ok : goodFn Try.prog 26 = true ∧ cfn Try.prog 26 = t26 := ⟨by kernel_rfl, by kernel_rfl⟩
 /-- (*matchguard/matchguardcase.Codes).tables -/
def t27 : NFn := ⟨98, [(.tmp 2)],
 (.seq
 (.ops [
 ⟨(some 2), .move (.const (.slice none 0 (.fix 0))), none⟩])
 (.seq
 (.ops [
 ⟨(some 10), .build [(.str ⟨#[]⟩), (.int .i64 0), (.int .i64 0)] [(0, 1, (.const (.str ⟨#[97]⟩))), (1, 1, (.const (.int .i64 4))), (2, 1, (.const (.int .i64 1)))], none⟩,
 ⟨(some 11), .bslice 1 [(.str ⟨#[]⟩), (.int .i64 0), (.int .i64 0)] [(0, 3, (.tmp 10))], none⟩,
 ⟨(some 12), .bslice 3 [(.int .i64 0), (.int .i64 0), (.int .i64 0)] [(0, 1, (.const (.int .i64 1))), (1, 1, (.const (.int .i64 2))), (2, 1, (.const (.int .i64 4)))], none⟩,
 ⟨(some 13), .move (.tmp 0), none⟩,
 ⟨(some 14), .call 24 [(.tmp 13), (.const (.int .i64 2))], none⟩,
 ⟨(some 15), .bin .add (.const (.int .i64 1)) (.tmp 14), none⟩,
 ⟨(some 16), .move (.tmp 0), none⟩,
 ⟨(some 17), .call 24 [(.tmp 16), (.const (.int .i64 5))], none⟩,
 ⟨(some 18), .bin .add (.const (.int .i64 2)) (.tmp 17), none⟩,
 ⟨(some 19), .build [(.int .i64 0), (.str ⟨#[]⟩), (.slice none 0 (.fix 0)), (.slice none 0 (.fix 0)), (.int .i64 0), (.slice none 0 (.fix 0)), (.int .i64 0), (.str ⟨#[]⟩)] [(0, 1, (.const (.int .i64 1))), (1, 1, (.const (.str ⟨#[112, 111, 114, 116, 115]⟩))), (2, 1, (.tmp 11)), (3, 1, (.tmp 12)), (4, 1, (.tmp 15)), (6, 1, (.tmp 18))], none⟩,
 ⟨(some 3), .alloc [(.int .i64 0), (.str ⟨#[]⟩), (.slice none 0 (.fix 0)), (.slice none 0 (.fix 0)), (.int .i64 0), (.slice none 0 (.fix 0)), (.int .i64 0), (.str ⟨#[]⟩)], none⟩,
 ⟨none, .store 8 (.tmp 3) (.tmp 19), none⟩])
 (.seq
 (.ops [
 ⟨(some 20), .build [(.str ⟨#[]⟩), (.int .i64 0), (.int .i64 0)] [(0, 1, (.const (.str ⟨#[100]⟩))), (1, 1, (.const (.int .i64 7))), (2, 1, (.const (.int .i64 2)))], none⟩,
 ⟨(some 21), .bslice 1 [(.str ⟨#[]⟩), (.int .i64 0), (.int .i64 0)] [(0, 3, (.tmp 20))], none⟩,
 ⟨(some 22), .bslice 4 [(.int .i64 0), (.int .i64 0), (.int .i64 0), (.int .i64 0)] [(0, 1, (.const (.int .i64 1))), (1, 1, (.const (.int .i64 2))), (2, 1, (.const (.int .i64 3))), (3, 1, (.const (.int .i64 4)))], none⟩,
 ⟨(some 23), .move (.tmp 0), none⟩,
 ⟨(some 24), .call 24 [(.tmp 23), (.const (.int .i64 6))], none⟩,
 ⟨(some 25), .bin .add (.const (.int .i64 3)) (.tmp 24), none⟩,
 ⟨(some 26), .build [(.int .i64 0), (.str ⟨#[]⟩), (.slice none 0 (.fix 0)), (.slice none 0 (.fix 0)), (.int .i64 0), (.slice none 0 (.fix 0)), (.int .i64 0), (.str ⟨#[]⟩)] [(0, 1, (.const (.int .i64 2))), (1, 1, (.const (.str ⟨#[114, 111, 117, 116, 101, 115]⟩))), (2, 1, (.tmp 21)), (3, 1, (.tmp 22)), (4, 1, (.const (.int .i64 2))), (6, 1, (.tmp 25))], none⟩,
 ⟨(some 4), .alloc [(.int .i64 0), (.str ⟨#[]⟩), (.slice none 0 (.fix 0)), (.slice none 0 (.fix 0)), (.int .i64 0), (.slice none 0 (.fix 0)), (.int .i64 0), (.str ⟨#[]⟩)], none⟩,
 ⟨none, .store 8 (.tmp 4) (.tmp 26), none⟩])
 (.seq
 (.seq
 (.ops [
 ⟨(some 27), .move (.tmp 0), none⟩,
 ⟨(some 28), .call 29 [(.tmp 27)], none⟩])
 (.cond (.tmp 28)
 (.ops [
 ⟨(some 29), .off (.tmp 4) 2, none⟩,
 ⟨(some 30), .load 1 false (.tmp 29), none⟩,
 ⟨(some 31), .build [(.str ⟨#[]⟩), (.int .i64 0), (.int .i64 0)] [(0, 1, (.const (.str ⟨#[109]⟩))), (1, 1, (.const (.int .i64 3))), (2, 1, (.const (.int .i64 1)))], none⟩,
 ⟨(some 32), .bslice 1 [(.str ⟨#[]⟩), (.int .i64 0), (.int .i64 0)] [(0, 3, (.tmp 31))], none⟩,
 ⟨(some 33), .append 3 32 (.tmp 30) (.tmp 32), none⟩,
 ⟨(some 34), .off (.tmp 4) 2, none⟩,
 ⟨none, .store 1 (.tmp 34) (.tmp 33), none⟩])
 .skip))
 (.seq
 (.ops [
 ⟨(some 35), .build [(.str ⟨#[]⟩), (.int .i64 0), (.int .i64 0)] [(0, 1, (.const (.str ⟨#[101]⟩))), (1, 1, (.const (.int .i64 6))), (2, 1, (.const (.int .i64 3)))], none⟩,
 ⟨(some 36), .build [(.str ⟨#[]⟩), (.int .i64 0), (.int .i64 0)] [(0, 1, (.const (.str ⟨#[97]⟩))), (1, 1, (.const (.int .i64 4))), (2, 1, (.const (.int .i64 3)))], none⟩,
 ⟨(some 37), .bslice 2 [(.str ⟨#[]⟩), (.int .i64 0), (.int .i64 0), (.str ⟨#[]⟩), (.int .i64 0), (.int .i64 0)] [(0, 3, (.tmp 35)), (3, 3, (.tmp 36))], none⟩,
 ⟨(some 38), .bslice 5 [(.int .i64 0), (.int .i64 0), (.int .i64 0), (.int .i64 0), (.int .i64 0)] [(0, 1, (.const (.int .i64 1))), (1, 1, (.const (.int .i64 2))), (2, 1, (.const (.int .i64 3))), (3, 1, (.const (.int .i64 5))), (4, 1, (.const (.int .i64 6)))], none⟩,
 ⟨(some 39), .move (.tmp 0), none⟩,
 ⟨(some 40), .call 24 [(.tmp 39), (.const (.int .i64 6))], none⟩,
 ⟨(some 41), .bin .add (.const (.int .i64 4)) (.tmp 40), none⟩,
 ⟨(some 42), .build [(.int .i64 0), (.str ⟨#[]⟩), (.slice none 0 (.fix 0)), (.slice none 0 (.fix 0)), (.int .i64 0), (.slice none 0 (.fix 0)), (.int .i64 0), (.str ⟨#[]⟩)] [(0, 1, (.const (.int .i64 3))), (1, 1, (.const (.str ⟨#[97, 99, 108]⟩))), (2, 1, (.tmp 37)), (3, 1, (.tmp 38)), (4, 1, (.const (.int .i64 1))), (6, 1, (.tmp 41))], none⟩,
 ⟨(some 5), .alloc [(.int .i64 0), (.str ⟨#[]⟩), (.slice none 0 (.fix 0)), (.slice none 0 (.fix 0)), (.int .i64 0), (.slice none 0 (.fix 0)), (.int .i64 0), (.str ⟨#[]⟩)], none⟩,
 ⟨none, .store 8 (.tmp 5) (.tmp 42), none⟩])
 (.seq
 (.seq
 (.ops [
 ⟨(some 43), .move (.tmp 0), none⟩,
 ⟨(some 44), .call 29 [(.tmp 43)], none⟩])
 (.cond (.tmp 44)
 (.ops [
 ⟨(some 45), .off (.tmp 5) 2, none⟩,
 ⟨(some 46), .load 1 false (.tmp 45), none⟩,
 ⟨(some 47), .build [(.str ⟨#[]⟩), (.int .i64 0), (.int .i64 0)] [(0, 1, (.const (.str ⟨#[98]⟩))), (1, 1, (.const (.int .i64 5))), (2, 1, (.const (.int .i64 1)))], none⟩,
 ⟨(some 48), .bslice 1 [(.str ⟨#[]⟩), (.int .i64 0), (.int .i64 0)] [(0, 3, (.tmp 47))], none⟩,
 ⟨(some 49), .append 3 32 (.tmp 46) (.tmp 48), none⟩,
 ⟨(some 50), .off (.tmp 5) 2, none⟩,
 ⟨none, .store 1 (.tmp 50) (.tmp 49), none⟩])
 .skip))
 (.seq
 (.ops [
 ⟨(some 51), .build [(.str ⟨#[]⟩), (.int .i64 0), (.int .i64 0)] [(0, 1, (.const (.str ⟨#[102]⟩))), (1, 1, (.const (.int .i64 8))), (2, 1, (.const (.int .i64 4)))], none⟩,
 ⟨(some 52), .bslice 1 [(.str ⟨#[]⟩), (.int .i64 0), (.int .i64 0)] [(0, 3, (.tmp 51))], none⟩,
 ⟨(some 53), .bslice 3 [(.int .i64 0), (.int .i64 0), (.int .i64 0)] [(0, 1, (.const (.int .i64 1))), (1, 1, (.const (.int .i64 3))), (2, 1, (.const (.int .i64 5)))], none⟩,
 ⟨(some 54), .build [(.int .u64 0), (.int .u64 0)] [(1, 1, (.const (.int .u64 7)))], none⟩,
 ⟨(some 55), .bslice 1 [(.int .u64 0), (.int .u64 0)] [(0, 2, (.tmp 54))], none⟩,
 ⟨(some 56), .move (.tmp 0), none⟩,
 ⟨(some 57), .call 24 [(.tmp 56), (.const (.int .i64 5))], none⟩,
 ⟨(some 58), .bin .add (.const (.int .i64 3)) (.tmp 57), none⟩,
 ⟨(some 59), .build [(.int .i64 0), (.str ⟨#[]⟩), (.slice none 0 (.fix 0)), (.slice none 0 (.fix 0)), (.int .i64 0), (.slice none 0 (.fix 0)), (.int .i64 0), (.str ⟨#[]⟩)] [(0, 1, (.const (.int .i64 4))), (1, 1, (.const (.str ⟨#[115, 112, 97, 110, 115]⟩))), (2, 1, (.tmp 52)), (3, 1, (.tmp 53)), (4, 1, (.const (.int .i64 3))), (5, 1, (.tmp 55)), (6, 1, (.tmp 58))], none⟩,
 ⟨(some 6), .alloc [(.int .i64 0), (.str ⟨#[]⟩), (.slice none 0 (.fix 0)), (.slice none 0 (.fix 0)), (.int .i64 0), (.slice none 0 (.fix 0)), (.int .i64 0), (.str ⟨#[]⟩)], none⟩,
 ⟨none, .store 8 (.tmp 6) (.tmp 59), none⟩])
 (.seq
 (.seq
 (.ops [
 ⟨(some 60), .move (.tmp 0), none⟩,
 ⟨(some 61), .call 29 [(.tmp 60)], none⟩])
 (.cond (.tmp 61)
 (.ops [
 ⟨(some 62), .off (.tmp 6) 2, none⟩,
 ⟨(some 63), .load 1 false (.tmp 62), none⟩,
 ⟨(some 64), .build [(.str ⟨#[]⟩), (.int .i64 0), (.int .i64 0)] [(0, 1, (.const (.str ⟨#[103]⟩))), (1, 1, (.const (.int .i64 9))), (2, 1, (.const (.int .i64 1)))], none⟩,
 ⟨(some 65), .build [(.str ⟨#[]⟩), (.int .i64 0), (.int .i64 0)] [(0, 1, (.const (.str ⟨#[100]⟩))), (1, 1, (.const (.int .i64 7))), (2, 1, (.const (.int .i64 2)))], none⟩,
 ⟨(some 66), .bslice 2 [(.str ⟨#[]⟩), (.int .i64 0), (.int .i64 0), (.str ⟨#[]⟩), (.int .i64 0), (.int .i64 0)] [(0, 3, (.tmp 64)), (3, 3, (.tmp 65))], none⟩,
 ⟨(some 67), .append 3 32 (.tmp 63) (.tmp 66), none⟩,
 ⟨(some 68), .off (.tmp 6) 2, none⟩,
 ⟨none, .store 1 (.tmp 68) (.tmp 67), none⟩])
 .skip))
 (.seq
 (.ops [
 ⟨(some 69), .load 8 true (.tmp 3), none⟩,
 ⟨(some 70), .load 8 true (.tmp 4), none⟩,
 ⟨(some 71), .load 8 true (.tmp 5), none⟩,
 ⟨(some 72), .load 8 true (.tmp 6), none⟩,
 ⟨(some 73), .bslice 4 [(.int .i64 0), (.str ⟨#[]⟩), (.slice none 0 (.fix 0)), (.slice none 0 (.fix 0)), (.int .i64 0), (.slice none 0 (.fix 0)), (.int .i64 0), (.str ⟨#[]⟩), (.int .i64 0), (.str ⟨#[]⟩), (.slice none 0 (.fix 0)), (.slice none 0 (.fix 0)), (.int .i64 0), (.slice none 0 (.fix 0)), (.int .i64 0), (.str ⟨#[]⟩), (.int .i64 0), (.str ⟨#[]⟩), (.slice none 0 (.fix 0)), (.slice none 0 (.fix 0)), (.int .i64 0), (.slice none 0 (.fix 0)), (.int .i64 0), (.str ⟨#[]⟩), (.int .i64 0), (.str ⟨#[]⟩), (.slice none 0 (.fix 0)), (.slice none 0 (.fix 0)), (.int .i64 0), (.slice none 0 (.fix 0)), (.int .i64 0), (.str ⟨#[]⟩)] [(0, 8, (.tmp 69)), (8, 8, (.tmp 70)), (16, 8, (.tmp 71)), (24, 8, (.tmp 72))], none⟩,
 ⟨(some 7), .move (.tmp 73), none⟩])
 (.seq
 (.ops [
 ⟨(some 74), .bslice 3 [(.str ⟨#[]⟩), (.str ⟨#[]⟩), (.str ⟨#[]⟩)] [(0, 1, (.const (.str ⟨#[]⟩))), (1, 1, (.const (.str ⟨#[97, 32, 33, 61, 32, 48]⟩))), (2, 1, (.const (.str ⟨#[97, 32, 60, 32, 49, 52, 32, 38, 38, 32, 97, 32, 33, 61, 32, 51]⟩)))], none⟩,
 ⟨(some 75), .bslice 3 [(.str ⟨#[]⟩), (.str ⟨#[]⟩), (.str ⟨#[]⟩)] [(0, 1, (.const (.str ⟨#[]⟩))), (1, 1, (.const (.str ⟨#[100, 58, 58, 112, 114, 101, 102, 105, 120, 95, 108, 101, 110, 103, 116, 104, 32, 62, 61, 32, 56]⟩))), (2, 1, (.const (.str ⟨#[100, 58, 58, 112, 114, 101, 102, 105, 120, 95, 108, 101, 110, 103, 116, 104, 32, 61, 61, 32, 51, 50, 32, 45, 62, 32, 100, 58, 58, 118, 97, 108, 117, 101, 32, 62, 32, 48, 120, 102, 102]⟩)))], none⟩,
 ⟨(some 76), .bslice 3 [(.str ⟨#[]⟩), (.str ⟨#[]⟩), (.str ⟨#[]⟩)] [(0, 1, (.const (.str ⟨#[]⟩))), (1, 1, (.const (.str ⟨#[112, 114, 105, 111, 114, 105, 116, 121, 32, 60, 32, 49, 48, 48, 32, 38, 38, 32, 40, 101, 58, 58, 109, 97, 115, 107, 32, 33, 61, 32, 48, 32, 124, 124, 32, 97, 58, 58, 109, 97, 115, 107, 32, 33, 61, 32, 48, 41]⟩))), (2, 1, (.const (.str ⟨#[101, 58, 58, 109, 97, 115, 107, 32, 61, 61, 32, 48, 32, 45, 62, 32, 112, 114, 105, 111, 114, 105, 116, 121, 32, 62, 32, 53]⟩)))], none⟩,
 ⟨(some 77), .bslice 3 [(.str ⟨#[]⟩), (.str ⟨#[]⟩), (.str ⟨#[]⟩)] [(0, 1, (.const (.str ⟨#[]⟩))), (1, 1, (.const (.str ⟨#[102, 58, 58, 104, 105, 103, 104, 32, 45, 32, 102, 58, 58, 108, 111, 119, 32, 60, 61, 32, 48, 120, 49, 48, 48]⟩))), (2, 1, (.const (.str ⟨#[33, 40, 102, 58, 58, 108, 111, 119, 32, 61, 61, 32, 48, 32, 38, 38, 32, 102, 58, 58, 104, 105, 103, 104, 32, 62, 32, 49, 48, 48, 48, 41]⟩)))], none⟩,
 ⟨(some 78), .bslice 4 [(.slice none 0 (.fix 0)), (.slice none 0 (.fix 0)), (.slice none 0 (.fix 0)), (.slice none 0 (.fix 0))] [(0, 1, (.tmp 74)), (1, 1, (.tmp 75)), (2, 1, (.tmp 76)), (3, 1, (.tmp 77))], none⟩,
 ⟨(some 8), .move (.tmp 78), none⟩])
 (.seq
 (.seq
 (.ops [
 ⟨(some 79), .move (.tmp 7), none⟩,
 ⟨(some 80), .lenSl (.tmp 79), none⟩,
 ⟨(some 81), .move (.const (.int .i64 0)), none⟩])
 (.block 0
 (.loop
 (.seq
 (.ops [
 ⟨(some 82), .bin .lss (.tmp 81) (.tmp 80), none⟩])
 (.seq
 (.cond (.tmp 82)
 .skip
 (.exit 0))
 (.seq
 (.block 1
 (.seq
 (.ops [
 ⟨(some 83), .move (.tmp 81), none⟩,
 ⟨(some 9), .move (.tmp 83), none⟩])
 (.draw 0 [
 ⟨0, ⟨(some 84), .move (.tmp 7), none⟩, [], 0⟩,
 ⟨1, ⟨(some 85), .move (.tmp 9), none⟩, [], 0⟩,
 ⟨2, ⟨(some 86), .move (.tmp 8), none⟩, [], 0⟩,
 ⟨3, ⟨(some 87), .move (.tmp 9), none⟩, [], 0⟩,
 ⟨4, ⟨(some 88), .idxSl (.tmp 86) (.tmp 87) 1, none⟩, [2, 3], 0⟩,
 ⟨5, ⟨(some 89), .load 1 false (.tmp 88), none⟩, [4, 2, 3], 0⟩,
 ⟨6, ⟨(some 90), .move (.tmp 0), none⟩, [], 0⟩,
 ⟨7, ⟨(some 91), .call 24 [(.tmp 90), (.const (.int .i64 3))], none⟩, [6], 0⟩,
 ⟨8, ⟨(some 92), .idxSl (.tmp 89) (.tmp 91) 1, none⟩, [5, 4, 2, 3, 7, 6], 0⟩,
 ⟨9, ⟨(some 93), .load 1 false (.tmp 92), none⟩, [8, 5, 4, 2, 3, 7, 6], 0⟩,
 ⟨10, ⟨(some 94), .idxSl (.tmp 84) (.tmp 85) 8, none⟩, [0, 1, 2, 3, 4, 5, 6, 7, 8, 9], 0⟩,
 ⟨11, ⟨(some 95), .off (.tmp 94) 7, none⟩, [10, 0, 1, 2, 3, 4, 5, 6, 7, 8, 9], 0⟩,
 ⟨12, ⟨none, .store 1 (.tmp 95) (.tmp 93), none⟩, [11, 10, 0, 1, 2, 3, 4, 5, 6, 7, 8, 9], 0⟩])))
 (.ops [
 ⟨(some 96), .bin .add (.tmp 81) (.const (.int .i64 1)), none⟩,
 ⟨(some 81), .move (.tmp 96), none⟩])))))))
 (.seq
 (.ops [
 ⟨(some 97), .move (.tmp 7), none⟩,
 ⟨(some 2), .move (.tmp 97), none⟩])
 .ret))))))))))))⟩
theorem t27_ok : goodFn Try.prog 27 = true ∧ cfn Try.prog 27 = t27 := ⟨by kernel_rfl, by kernel_rfl⟩
 /-- (*matchguard/matchguardcase.Codes).roles -/
def t28 : NFn := ⟨105, [(.tmp 4)],
 (.seq
 (.ops [
 ⟨(some 4), .move (.const (.slice none 0 (.fix 0))), none⟩])
 (.seq
 (.ops [
 ⟨(some 13), .bslice 6 [(.int .i64 0), (.int .i64 0), (.int .i64 0), (.int .i64 0), (.int .i64 0), (.int .i64 0)] [(0, 1, (.const (.int .i64 1))), (1, 1, (.const (.int .i64 2))), (2, 1, (.const (.int .i64 3))), (3, 1, (.const (.int .i64 4))), (4, 1, (.const (.int .i64 5))), (5, 1, (.const (.int .i64 6)))], none⟩,
 ⟨(some 14), .build [(.int .i64 0), (.str ⟨#[]⟩), (.slice none 0 (.fix 0)), (.slice none 0 (.fix 0)), (.int .i64 0), (.bool false)] [(0, 1, (.const (.int .i64 1))), (1, 1, (.const (.str ⟨#[97, 108, 108]⟩))), (3, 1, (.tmp 13)), (4, 1, (.const (.int .i64 40))), (5, 1, (.const (.bool true)))], none⟩,
 ⟨(some 5), .alloc [(.int .i64 0), (.str ⟨#[]⟩), (.slice none 0 (.fix 0)), (.slice none 0 (.fix 0)), (.int .i64 0), (.bool false)], none⟩,
 ⟨none, .store 6 (.tmp 5) (.tmp 14), none⟩])
 (.seq
 (.ops [
 ⟨(some 15), .move (.tmp 0), none⟩,
 ⟨(some 16), .call 24 [(.tmp 15), (.const (.int .i64 3))], none⟩,
 ⟨(some 17), .bin .add (.const (.int .i64 3)) (.tmp 16), none⟩,
 ⟨(some 18), .bslice 3 [(.int .i64 0), (.int .i64 0), (.int .i64 0)] [(0, 1, (.const (.int .i64 1))), (1, 1, (.const (.int .i64 2))), (2, 1, (.tmp 17))], none⟩,
 ⟨(some 19), .move (.tmp 0), none⟩,
 ⟨(some 20), .call 24 [(.tmp 19), (.const (.int .i64 6))], none⟩,
 ⟨(some 21), .bin .add (.const (.int .i64 1)) (.tmp 20), none⟩,
 ⟨(some 22), .build [(.int .i64 0), (.str ⟨#[]⟩), (.slice none 0 (.fix 0)), (.slice none 0 (.fix 0)), (.int .i64 0), (.bool false)] [(0, 1, (.const (.int .i64 2))), (1, 1, (.const (.str ⟨#[115, 111, 109, 101]⟩))), (3, 1, (.tmp 18)), (4, 1, (.tmp 21))], none⟩,
 ⟨(some 6), .alloc [(.int .i64 0), (.str ⟨#[]⟩), (.slice none 0 (.fix 0)), (.slice none 0 (.fix 0)), (.int .i64 0), (.bool false)], none⟩,
 ⟨none, .store 6 (.tmp 6) (.tmp 22), none⟩])
 (.seq
 (.ops [
 ⟨(some 23), .move (.tmp 0), none⟩,
 ⟨(some 24), .call 24 [(.tmp 23), (.const (.int .i64 6))], none⟩,
 ⟨(some 25), .bin .add (.const (.int .i64 1)) (.tmp 24), none⟩,
 ⟨(some 26), .bslice 1 [(.int .i64 0)] [(0, 1, (.tmp 25))], none⟩,
 ⟨(some 27), .move (.tmp 0), none⟩,
 ⟨(some 28), .call 24 [(.tmp 27), (.const (.int .i64 4))], none⟩,
 ⟨(some 29), .build [(.int .i64 0), (.str ⟨#[]⟩), (.slice none 0 (.fix 0)), (.slice none 0 (.fix 0)), (.int .i64 0), (.bool false)] [(0, 1, (.const (.int .i64 7))), (1, 1, (.const (.str ⟨#[102, 101, 119]⟩))), (3, 1, (.tmp 26)), (4, 1, (.tmp 28))], none⟩,
 ⟨(some 7), .alloc [(.int .i64 0), (.str ⟨#[]⟩), (.slice none 0 (.fix 0)), (.slice none 0 (.fix 0)), (.int .i64 0), (.bool false)], none⟩,
 ⟨none, .store 6 (.tmp 7) (.tmp 29), none⟩])
 (.seq
 (.seq
 (.ops [
 ⟨(some 30), .move (.tmp 1), none⟩,
 ⟨(some 31), .lenSl (.tmp 30), none⟩,
 ⟨(some 32), .move (.const (.int .i64 0)), none⟩])
 (.block 0
 (.loop
 (.seq
 (.ops [
 ⟨(some 33), .bin .lss (.tmp 32) (.tmp 31), none⟩])
 (.seq
 (.cond (.tmp 33)
 .skip
 (.exit 0))
 (.seq
 (.block 1
 (.seq
 (.ops [
 ⟨(some 34), .idxSl (.tmp 30) (.tmp 32) 8, none⟩,
 ⟨(some 35), .load 8 true (.tmp 34), none⟩,
 ⟨(some 9), .alloc [(.int .i64 0), (.str ⟨#[]⟩), (.slice none 0 (.fix 0)), (.slice none 0 (.fix 0)), (.int .i64 0), (.slice none 0 (.fix 0)), (.int .i64 0), (.str ⟨#[]⟩)], none⟩,
 ⟨none, .store 8 (.tmp 9) (.tmp 35), none⟩])
 (.seq
 (.ops [
 ⟨(some 36), .off (.tmp 9) 2, none⟩,
 ⟨(some 37), .load 1 false (.tmp 36), none⟩,
 ⟨(some 38), .lenSl (.tmp 37), none⟩,
 ⟨(some 39), .mkslice 1 1 [(.bool false)] (.tmp 38) (.tmp 38), none⟩,
 ⟨(some 10), .move (.tmp 39), none⟩])
 (.seq
 (.ops [
 ⟨(some 40), .off (.tmp 9) 2, none⟩,
 ⟨(some 41), .load 1 false (.tmp 40), none⟩,
 ⟨(some 42), .lenSl (.tmp 41), none⟩,
 ⟨(some 43), .mkslice 1 1 [(.bool false)] (.tmp 42) (.tmp 42), none⟩,
 ⟨(some 11), .move (.tmp 43), none⟩])
 (.seq
 (.seq
 (.ops [
 ⟨(some 44), .move (.tmp 10), none⟩,
 ⟨(some 45), .lenSl (.tmp 44), none⟩,
 ⟨(some 46), .move (.const (.int .i64 0)), none⟩])
 (.block 2
 (.loop
 (.seq
 (.ops [
 ⟨(some 47), .bin .lss (.tmp 46) (.tmp 45), none⟩])
 (.seq
 (.cond (.tmp 47)
 .skip
 (.exit 2))
 (.seq
 (.block 3
 (.seq
 (.ops [
 ⟨(some 48), .move (.tmp 46), none⟩,
 ⟨(some 12), .move (.tmp 48), none⟩])
 (.ops [
 ⟨(some 49), .move (.tmp 10), none⟩,
 ⟨(some 50), .move (.tmp 12), none⟩,
 ⟨(some 51), .move (.tmp 11), none⟩,
 ⟨(some 52), .move (.tmp 12), none⟩,
 ⟨(some 53), .move (.tmp 0), none⟩,
 ⟨(some 54), .call 24 [(.tmp 53), (.const (.int .i64 4))], none⟩,
 ⟨(some 55), .bin .gtr (.tmp 54) (.const (.int .i64 0)), none⟩,
 ⟨(some 56), .idxSl (.tmp 49) (.tmp 50) 1, none⟩,
 ⟨none, .store 1 (.tmp 56) (.const (.bool true)), none⟩,
 ⟨(some 57), .idxSl (.tmp 51) (.tmp 52) 1, none⟩,
 ⟨none, .store 1 (.tmp 57) (.tmp 55), none⟩])))
 (.ops [
 ⟨(some 58), .bin .add (.tmp 46) (.const (.int .i64 1)), none⟩,
 ⟨(some 46), .move (.tmp 58), none⟩])))))))
 (.seq
 (.ops [
 ⟨(some 59), .off (.tmp 5) 2, none⟩,
 ⟨(some 60), .load 1 false (.tmp 59), none⟩,
 ⟨(some 61), .off (.tmp 9) 0, none⟩,
 ⟨(some 62), .load 1 false (.tmp 61), none⟩,
 ⟨(some 63), .move (.tmp 10), none⟩,
 ⟨(some 64), .build [(.int .i64 0), (.bool false), (.bool false), (.slice none 0 (.fix 0))] [(0, 1, (.tmp 62)), (1, 1, (.const (.bool true))), (2, 1, (.const (.bool true))), (3, 1, (.tmp 63))], none⟩,
 ⟨(some 65), .bslice 1 [(.int .i64 0), (.bool false), (.bool false), (.slice none 0 (.fix 0))] [(0, 4, (.tmp 64))], none⟩,
 ⟨(some 66), .append 4 40 (.tmp 60) (.tmp 65), none⟩,
 ⟨(some 67), .off (.tmp 5) 2, none⟩,
 ⟨none, .store 1 (.tmp 67) (.tmp 66), none⟩])
 (.seq
 (.seq
 (.ops [
 ⟨(some 68), .move (.tmp 0), none⟩,
 ⟨(some 69), .call 24 [(.tmp 68), (.const (.int .i64 4))], none⟩,
 ⟨(some 70), .bin .gtr (.tmp 69) (.const (.int .i64 0)), none⟩])
 (.cond (.tmp 70)
 (.draw 1 [
 ⟨0, ⟨(some 71), .off (.tmp 6) 2, none⟩, [], 0⟩,
 ⟨1, ⟨(some 72), .load 1 false (.tmp 71), none⟩, [0], 0⟩,
 ⟨2, ⟨(some 73), .off (.tmp 9) 0, none⟩, [], 0⟩,
 ⟨3, ⟨(some 74), .load 1 false (.tmp 73), none⟩, [2], 0⟩,
 ⟨4, ⟨(some 75), .move (.tmp 0), none⟩, [], 0⟩,
 ⟨5, ⟨(some 76), .call 24 [(.tmp 75), (.const (.int .i64 4))], none⟩, [4], 0⟩,
 ⟨6, ⟨(some 77), .bin .gtr (.tmp 76) (.const (.int .i64 0)), none⟩, [5, 4], 0⟩,
 ⟨7, ⟨(some 78), .move (.tmp 0), none⟩, [], 0⟩,
 ⟨8, ⟨(some 79), .call 29 [(.tmp 78)], none⟩, [7, 5, 4], 0⟩,
 ⟨9, ⟨(some 80), .move (.tmp 11), none⟩, [], 0⟩,
 ⟨10, ⟨(some 81), .build [(.int .i64 0), (.bool false), (.bool false), (.slice none 0 (.fix 0))] [(0, 1, (.tmp 74)), (1, 1, (.tmp 77)), (2, 1, (.tmp 79)), (3, 1, (.tmp 80))], none⟩, [3, 2, 6, 5, 4, 8, 7, 9], 0⟩,
 ⟨11, ⟨(some 82), .bslice 1 [(.int .i64 0), (.bool false), (.bool false), (.slice none 0 (.fix 0))] [(0, 4, (.tmp 81))], none⟩, [10, 3, 2, 6, 5, 4, 8, 7, 9], 0⟩,
 ⟨12, ⟨(some 83), .append 4 40 (.tmp 72) (.tmp 82), none⟩, [1, 0, 11, 10, 3, 2, 6, 5, 4, 8, 7, 9], 1⟩,
 ⟨13, ⟨(some 84), .off (.tmp 6) 2, none⟩, [0, 1, 2, 3, 4, 5, 6, 7, 8, 9, 10, 11, 12], 1⟩,
 ⟨14, ⟨none, .store 1 (.tmp 84) (.tmp 83), none⟩, [13, 0, 1, 2, 3, 4, 5, 6, 7, 8, 9, 10, 11, 12], 1⟩])
 .skip))
 (.seq
 (.ops [
 ⟨(some 85), .move (.tmp 0), none⟩,
 ⟨(some 86), .call 29 [(.tmp 85)], none⟩])
 (.cond (.tmp 86)
 (.draw 1 [
 ⟨0, ⟨(some 87), .off (.tmp 7) 2, none⟩, [], 0⟩,
 ⟨1, ⟨(some 88), .load 1 false (.tmp 87), none⟩, [0], 0⟩,
 ⟨2, ⟨(some 89), .off (.tmp 9) 0, none⟩, [], 0⟩,
 ⟨3, ⟨(some 90), .load 1 false (.tmp 89), none⟩, [2], 0⟩,
 ⟨4, ⟨(some 91), .move (.tmp 0), none⟩, [], 0⟩,
 ⟨5, ⟨(some 92), .call 29 [(.tmp 91)], none⟩, [4], 0⟩,
 ⟨6, ⟨(some 93), .move (.tmp 0), none⟩, [], 0⟩,
 ⟨7, ⟨(some 94), .call 29 [(.tmp 93)], none⟩, [6, 5, 4], 0⟩,
 ⟨8, ⟨(some 95), .move (.tmp 10), none⟩, [], 0⟩,
 ⟨9, ⟨(some 96), .build [(.int .i64 0), (.bool false), (.bool false), (.slice none 0 (.fix 0))] [(0, 1, (.tmp 90)), (1, 1, (.tmp 92)), (2, 1, (.tmp 94)), (3, 1, (.tmp 95))], none⟩, [3, 2, 5, 4, 7, 6, 8], 0⟩,
 ⟨10, ⟨(some 97), .bslice 1 [(.int .i64 0), (.bool false), (.bool false), (.slice none 0 (.fix 0))] [(0, 4, (.tmp 96))], none⟩, [9, 3, 2, 5, 4, 7, 6, 8], 0⟩,
 ⟨11, ⟨(some 98), .append 4 40 (.tmp 88) (.tmp 97), none⟩, [1, 0, 10, 9, 3, 2, 5, 4, 7, 6, 8], 1⟩,
 ⟨12, ⟨(some 99), .off (.tmp 7) 2, none⟩, [0, 1, 2, 3, 4, 5, 6, 7, 8, 9, 10, 11], 1⟩,
 ⟨13, ⟨none, .store 1 (.tmp 99) (.tmp 98), none⟩, [12, 0, 1, 2, 3, 4, 5, 6, 7, 8, 9, 10, 11], 1⟩])
 .skip)))))))))
 (.ops [
 ⟨(some 100), .bin .add (.tmp 32) (.const (.int .i64 1)), none⟩,
 ⟨(some 32), .move (.tmp 100), none⟩])))))))
 (.seq
 (.ops [
 ⟨(some 101), .load 6 true (.tmp 5), none⟩,
 ⟨(some 102), .load 6 true (.tmp 6), none⟩,
 ⟨(some 103), .load 6 true (.tmp 7), none⟩,
 ⟨(some 104), .bslice 3 [(.int .i64 0), (.str ⟨#[]⟩), (.slice none 0 (.fix 0)), (.slice none 0 (.fix 0)), (.int .i64 0), (.bool false), (.int .i64 0), (.str ⟨#[]⟩), (.slice none 0 (.fix 0)), (.slice none 0 (.fix 0)), (.int .i64 0), (.bool false), (.int .i64 0), (.str ⟨#[]⟩), (.slice none 0 (.fix 0)), (.slice none 0 (.fix 0)), (.int .i64 0), (.bool false)] [(0, 6, (.tmp 101)), (6, 6, (.tmp 102)), (12, 6, (.tmp 103))], none⟩,
 ⟨(some 4), .move (.tmp 104), none⟩])
 .ret))))))⟩
theorem t28_ok : goodFn Try.prog 28 = true ∧ cfn Try.prog 28 = t28 := ⟨by kernel_rfl, by kernel_rfl⟩
 /-- (*matchguard/matchguardcase.Codes).Bool -/
def t29 : NFn := ⟨6, [(.tmp 2)],
 (.seq
 (.ops [
 ⟨(some 2), .move (.const (.bool false)), none⟩])
 (.seq
 (.ops [
 ⟨(some 3), .move (.tmp 0), none⟩,
 ⟨(some 4), .call 24 [(.tmp 3), (.const (.int .i64 2))], none⟩,
 ⟨(some 5), .bin .eql (.tmp 4) (.const (.int .i64 1)), none⟩,
 ⟨(some 2), .move (.tmp 5), none⟩])
 .ret))⟩
theorem t29_ok : goodFn Try.prog 29 = true ∧ cfn Try.prog 29 = t29 := ⟨by kernel_rfl, by kernel_rfl⟩
 /-- (*matchguard/matchguardcase.Codes).Bytes -/
def t30 : NFn := ⟨29, [(.tmp 4)],
 (.seq
 (.ops [
 ⟨(some 4), .move (.const (.slice none 0 (.fix 0))), none⟩])
 (.seq
 (.ops [
 ⟨(some 8), .move (.tmp 1), none⟩,
 ⟨(some 9), .mkslice 1 1 [(.int .u8 0)] (.tmp 8) (.tmp 8), none⟩,
 ⟨(some 5), .move (.tmp 9), none⟩])
 (.seq
 (.ops [
 ⟨(some 10), .move (.tmp 0), none⟩,
 ⟨(some 11), .call 24 [(.tmp 10), (.const (.int .i64 256))], none⟩,
 ⟨(some 6), .move (.tmp 11), none⟩])
 (.seq
 (.seq
 (.ops [
 ⟨(some 12), .move (.tmp 5), none⟩,
 ⟨(some 13), .lenSl (.tmp 12), none⟩,
 ⟨(some 14), .move (.const (.int .i64 0)), none⟩])
 (.block 0
 (.loop
 (.seq
 (.ops [
 ⟨(some 15), .bin .lss (.tmp 14) (.tmp 13), none⟩])
 (.seq
 (.cond (.tmp 15)
 .skip
 (.exit 0))
 (.seq
 (.block 1
 (.seq
 (.ops [
 ⟨(some 16), .move (.tmp 14), none⟩,
 ⟨(some 7), .move (.tmp 16), none⟩])
 (.ops [
 ⟨(some 17), .move (.tmp 5), none⟩,
 ⟨(some 18), .move (.tmp 7), none⟩,
 ⟨(some 19), .move (.tmp 6), none⟩,
 ⟨(some 20), .move (.tmp 7), none⟩,
 ⟨(some 21), .move (.tmp 0), none⟩,
 ⟨(some 22), .call 50 [(.tmp 21)], none⟩,
 ⟨(some 23), .bin .mul (.tmp 20) (.tmp 22), none⟩,
 ⟨(some 24), .bin .add (.tmp 19) (.tmp 23), none⟩,
 ⟨(some 25), .conv .u8 (.tmp 24), none⟩,
 ⟨(some 26), .idxSl (.tmp 17) (.tmp 18) 1, none⟩,
 ⟨none, .store 1 (.tmp 26) (.tmp 25), none⟩])))
 (.ops [
 ⟨(some 27), .bin .add (.tmp 14) (.const (.int .i64 1)), none⟩,
 ⟨(some 14), .move (.tmp 27), none⟩])))))))
 (.seq
 (.ops [
 ⟨(some 28), .move (.tmp 5), none⟩,
 ⟨(some 4), .move (.tmp 28), none⟩])
 .ret)))))⟩
theorem t30_ok : goodFn Try.prog 30 = true ∧ cfn Try.prog 30 = t30 := ⟨by kernel_rfl, by kernel_rfl⟩
 /-- slices.Clone[[]byte,byte] -/
def t31 : NFn := ⟨8, [(.tmp 2)],
 (.seq
 (.ops [
 ⟨(some 2), .move (.const (.slice none 0 (.fix 0))), none⟩])
 (.seq
 (.seq
 (.ops [
 ⟨(some 3), .move (.tmp 0), none⟩,
 ⟨(some 4), .eq false false [.slice] (.tmp 3) (.const (.slice none 0 (.fix 0))), none⟩])
 (.cond (.tmp 4)
 (.seq
 (.ops [
 ⟨(some 2), .move (.const (.slice none 0 (.fix 0))), none⟩])
 .ret)
 .skip))
 (.seq
 (.ops [
 ⟨(some 5), .bslice 0 [] [], none⟩,
 ⟨(some 6), .move (.tmp 0), none⟩,
 ⟨(some 7), .append 1 1 (.tmp 5) (.tmp 6), none⟩,
 ⟨(some 2), .move (.tmp 7), none⟩])
 .ret)))⟩
theorem t31_ok : goodFn Try.prog 31 = true ∧ cfn Try.prog 31 = t31 := ⟨by kernel_rfl, by kernel_rfl⟩
 /-- matchguard/check.FieldOf -/
def t32 : NFn := ⟨9, [(.tmp 4)],
 (.seq
 (.ops [
 ⟨(some 2), .box (.tmp 0), none⟩,
 ⟨(some 3), .box (.tmp 1), none⟩,
 ⟨(some 4), .move (.const (.int .i64 0)), none⟩])
 (.seq
 (.ops [
 ⟨(some 5), .off (.tmp 2) 0, none⟩,
 ⟨(some 6), .load 1 false (.tmp 5), none⟩,
 ⟨(some 7), .mkfunc (.func 52) [] [(.tmp 3)], none⟩,
 ⟨(some 8), .call 51 [(.tmp 6), (.tmp 7)], none⟩,
 ⟨(some 4), .move (.tmp 8), none⟩])
 .ret))⟩
theorem t32_ok : goodFn Try.prog 32 = true ∧ cfn Try.prog 32 = t32 := ⟨by kernel_rfl, by kernel_rfl⟩
 /-- matchguard/value.Of -/
def t33 : NFn := ⟨5, [(.cell 2 2 true)],
 (.seq
 (.ops [
 ⟨(some 2), .alloc [(.int .u64 0), (.int .u64 0)], none⟩])
 (.seq
 (.ops [
 ⟨(some 3), .move (.tmp 0), none⟩,
 ⟨(some 4), .build [(.int .u64 0), (.int .u64 0)] [(1, 1, (.tmp 3))], none⟩,
 ⟨none, .store 2 (.tmp 2) (.tmp 4), none⟩])
 .ret))⟩
theorem t33_ok : goodFn Try.prog 33 = true ∧ cfn Try.prog 33 = t33 := ⟨by kernel_rfl, by kernel_rfl⟩
 /-- matchguard/extract.copied -/
def t34 : NFn := ⟨16, [(.cell 2 5 true)],
 (.seq
 (.ops [
 ⟨(some 1), .box (.tmp 0), none⟩,
 ⟨(some 2), .alloc [(.slice none 0 (.fix 0)), (.slice none 0 (.fix 0)), (.slice none 0 (.fix 0)), (.int .i64 0), (.bool false)], none⟩])
 (.seq
 (.draw 0 [
 ⟨0, ⟨(some 3), .off (.tmp 1) 0, none⟩, [], 0⟩,
 ⟨1, ⟨(some 4), .load 1 false (.tmp 3), none⟩, [0], 0⟩,
 ⟨2, ⟨(some 5), .call 53 [(.tmp 4)], none⟩, [1, 0], 0⟩,
 ⟨3, ⟨(some 6), .off (.tmp 1) 1, none⟩, [], 0⟩,
 ⟨4, ⟨(some 7), .load 1 false (.tmp 6), none⟩, [3], 0⟩,
 ⟨5, ⟨(some 8), .call 54 [(.tmp 7)], none⟩, [4, 3, 2, 1, 0], 0⟩,
 ⟨6, ⟨(some 9), .off (.tmp 1) 2, none⟩, [], 0⟩,
 ⟨7, ⟨(some 10), .load 1 false (.tmp 9), none⟩, [6], 0⟩,
 ⟨8, ⟨(some 11), .call 31 [(.tmp 10)], none⟩, [7, 6, 5, 4, 3, 2, 1, 0], 0⟩,
 ⟨9, ⟨(some 12), .off (.tmp 1) 0, none⟩, [0, 1, 2, 3, 4, 6, 7], 0⟩,
 ⟨10, ⟨none, .store 1 (.tmp 12) (.tmp 5), none⟩, [9, 0, 1, 2, 3, 4, 6, 7, 8, 5], 0⟩,
 ⟨11, ⟨(some 13), .off (.tmp 1) 1, none⟩, [0, 1, 2, 3, 4, 5, 6, 7, 9, 10, 8], 0⟩,
 ⟨12, ⟨none, .store 1 (.tmp 13) (.tmp 8), none⟩, [11, 0, 1, 2, 3, 4, 5, 6, 7, 9, 10, 8], 0⟩,
 ⟨13, ⟨(some 14), .off (.tmp 1) 2, none⟩, [0, 1, 2, 3, 4, 5, 6, 7, 8, 9, 10, 11, 12], 0⟩,
 ⟨14, ⟨none, .store 1 (.tmp 14) (.tmp 11), none⟩, [13, 0, 1, 2, 3, 4, 5, 6, 7, 8, 9, 10, 11, 12], 0⟩])
 (.seq
 (.ops [
 ⟨(some 15), .load 5 true (.tmp 1), none⟩,
 ⟨none, .store 5 (.tmp 2) (.tmp 15), none⟩])
 .ret)))⟩
theorem t34_ok : goodFn Try.prog 34 = true ∧ cfn Try.prog 34 = t34 := ⟨by kernel_rfl, by kernel_rfl⟩
 /-- matchguard/extract.header -/
def t35 : NFn := ⟨71, [(.tmp 6)],
 (.seq
 (.ops [
 ⟨(some 3), .box (.tmp 0), none⟩,
 ⟨(some 4), .box (.tmp 1), none⟩,
 ⟨(some 6), .move (.const (.bool false)), none⟩])
 (.seq
 (.ops [
 ⟨(some 14), .off (.tmp 3) 1, none⟩,
 ⟨(some 15), .load 1 false (.tmp 14), none⟩,
 ⟨(some 16), .move (.tmp 2), none⟩,
 ⟨(some 17), .idxSl (.tmp 15) (.tmp 16) 3, none⟩,
 ⟨(some 18), .load 3 true (.tmp 17), none⟩,
 ⟨(some 7), .alloc [(.int .i64 0), (.str ⟨#[]⟩), (.slice none 0 (.fix 0))], none⟩,
 ⟨none, .store 3 (.tmp 7) (.tmp 18), none⟩])
 (.seq
 (.ops [
 ⟨(some 19), .load 10 true (.tmp 3), none⟩,
 ⟨(some 20), .load 3 true (.tmp 7), none⟩,
 ⟨(some 21), .call 55 [(.tmp 19), (.tmp 20)], none⟩,
 ⟨(some 22), .bin .quo (.tmp 21) (.const (.int .i64 8)), none⟩,
 ⟨(some 8), .move (.tmp 22), none⟩])
 (.seq
 (.seq
 (.ops [
 ⟨(some 23), .load 1 false (.tmp 4), none⟩,
 ⟨(some 24), .nilCheck (.tmp 23), none⟩,
 ⟨(some 25), .off (.tmp 24) 2, none⟩,
 ⟨(some 26), .load 1 false (.tmp 25), none⟩,
 ⟨(some 27), .lenSl (.tmp 26), none⟩,
 ⟨(some 28), .move (.tmp 8), none⟩,
 ⟨(some 29), .bin .lss (.tmp 27) (.tmp 28), none⟩])
 (.cond (.tmp 29)
 (.seq
 (.ops [
 ⟨(some 6), .move (.const (.bool false)), none⟩])
 .ret)
 .skip))
 (.seq
 (.ops [
 ⟨(some 9), .alloc [(.int .i64 0)], none⟩,
 ⟨none, .store 1 (.tmp 9) (.const (.int .i64 0)), none⟩])
 (.seq
 (.ops [
 ⟨(some 30), .mkfunc (.func 56) [] [(.tmp 4), (.tmp 9)], none⟩,
 ⟨(some 10), .move (.tmp 30), none⟩])
 (.seq
 (.seq
 (.ops [
 ⟨(some 31), .off (.tmp 7) 2, none⟩,
 ⟨(some 32), .load 1 false (.tmp 31), none⟩,
 ⟨(some 33), .lenSl (.tmp 32), none⟩,
 ⟨(some 34), .move (.const (.int .i64 0)), none⟩])
 (.block 0
 (.loop
 (.seq
 (.ops [
 ⟨(some 35), .bin .lss (.tmp 34) (.tmp 33), none⟩])
 (.seq
 (.cond (.tmp 35)
 .skip
 (.exit 0))
 (.seq
 (.block 1
 (.seq
 (.ops [
 ⟨(some 36), .idxSl (.tmp 32) (.tmp 34) 1, none⟩,
 ⟨(some 37), .load 1 false (.tmp 36), none⟩,
 ⟨(some 12), .move (.tmp 37), none⟩])
 (.seq
 (.ops [
 ⟨(some 38), .load 10 true (.tmp 3), none⟩,
 ⟨(some 39), .move (.tmp 12), none⟩,
 ⟨(some 40), .call 32 [(.tmp 38), (.tmp 39)], none⟩,
 ⟨(some 13), .move (.tmp 40), none⟩])
 (.draw 0 [
 ⟨0, ⟨(some 41), .load 1 false (.tmp 4), none⟩, [], 0⟩,
 ⟨1, ⟨(some 42), .nilCheck (.tmp 41), none⟩, [0], 0⟩,
 ⟨2, ⟨(some 43), .off (.tmp 42) 0, none⟩, [1, 0], 0⟩,
 ⟨3, ⟨(some 44), .load 1 false (.tmp 43), none⟩, [2, 1, 0], 0⟩,
 ⟨4, ⟨(some 45), .move (.tmp 13), none⟩, [], 0⟩,
 ⟨5, ⟨(some 46), .move (.tmp 10), none⟩, [], 0⟩,
 ⟨6, ⟨(some 47), .off (.tmp 3) 0, none⟩, [], 0⟩,
 ⟨7, ⟨(some 48), .load 1 false (.tmp 47), none⟩, [6], 0⟩,
 ⟨8, ⟨(some 49), .move (.tmp 13), none⟩, [], 0⟩,
 ⟨9, ⟨(some 50), .idxSl (.tmp 48) (.tmp 49) 3, none⟩, [7, 6, 8], 0⟩,
 ⟨10, ⟨(some 51), .off (.tmp 50) 2, none⟩, [9, 7, 6, 8], 0⟩,
 ⟨11, ⟨(some 52), .load 1 false (.tmp 51), none⟩, [10, 9, 7, 6, 8], 0⟩,
 ⟨12, ⟨(some 53), .callv (.tmp 46) [(.tmp 52)], none⟩, [5, 11, 10, 9, 7, 6, 8], 0⟩,
 ⟨13, ⟨(some 54), .idxSl (.tmp 44) (.tmp 45) 2, none⟩, [3, 2, 1, 0, 4, 5, 6, 7, 8, 9, 10, 11, 12], 0⟩,
 ⟨14, ⟨none, .store 2 (.tmp 54) (.tmp 53), none⟩, [13, 3, 2, 1, 0, 4, 5, 6, 7, 8, 9, 10, 11, 12], 0⟩]))))
 (.ops [
 ⟨(some 55), .bin .add (.tmp 34) (.const (.int .i64 1)), none⟩,
 ⟨(some 34), .move (.tmp 55), none⟩])))))))
 (.seq
 (.ops [
 ⟨(some 56), .load 1 false (.tmp 4), none⟩,
 ⟨(some 57), .nilCheck (.tmp 56), none⟩,
 ⟨(some 58), .off (.tmp 57) 1, none⟩,
 ⟨(some 59), .load 1 false (.tmp 58), none⟩,
 ⟨(some 60), .move (.tmp 2), none⟩,
 ⟨(some 61), .idxSl (.tmp 59) (.tmp 60) 1, none⟩,
 ⟨none, .store 1 (.tmp 61) (.const (.bool true)), none⟩])
 (.seq
 (.draw 0 [
 ⟨0, ⟨(some 62), .load 1 false (.tmp 4), none⟩, [], 0⟩,
 ⟨1, ⟨(some 63), .load 1 false (.tmp 4), none⟩, [], 0⟩,
 ⟨2, ⟨(some 64), .nilCheck (.tmp 63), none⟩, [1], 0⟩,
 ⟨3, ⟨(some 65), .off (.tmp 64) 2, none⟩, [2, 1], 0⟩,
 ⟨4, ⟨(some 66), .load 1 false (.tmp 65), none⟩, [3, 2, 1], 0⟩,
 ⟨5, ⟨(some 67), .move (.tmp 8), none⟩, [], 0⟩,
 ⟨6, ⟨(some 68), .slice (.tmp 66) (some (.tmp 67)) none none 1, none⟩, [4, 3, 2, 1, 5], 0⟩,
 ⟨7, ⟨(some 69), .nilCheck (.tmp 62), none⟩, [0, 1, 2, 3, 4, 5, 6], 0⟩,
 ⟨8, ⟨(some 70), .off (.tmp 69) 2, none⟩, [7, 0, 1, 2, 3, 4, 5, 6], 0⟩,
 ⟨9, ⟨none, .store 1 (.tmp 70) (.tmp 68), none⟩, [8, 7, 0, 1, 2, 3, 4, 5, 6], 0⟩])
 (.seq
 (.ops [
 ⟨(some 6), .move (.const (.bool true)), none⟩])
 .ret))))))))))⟩
theorem t35_ok : goodFn Try.prog 35 = true ∧ cfn Try.prog 35 = t35 := ⟨by kernel_rfl, by kernel_rfl⟩
 /-- matchguard/check.HeaderOf -/
def t36 : NFn := ⟨9, [(.tmp 4)],
 (.seq
 (.ops [
 ⟨(some 2), .box (.tmp 0), none⟩,
 ⟨(some 3), .box (.tmp 1), none⟩,
 ⟨(some 4), .move (.const (.int .i64 0)), none⟩])
 (.seq
 (.ops [
 ⟨(some 5), .off (.tmp 2) 1, none⟩,
 ⟨(some 6), .load 1 false (.tmp 5), none⟩,
 ⟨(some 7), .mkfunc (.func 60) [] [(.tmp 3)], none⟩,
 ⟨(some 8), .call 59 [(.tmp 6), (.tmp 7)], none⟩,
 ⟨(some 4), .move (.tmp 8), none⟩])
 .ret))⟩
theorem t36_ok : goodFn Try.prog 36 = true ∧ cfn Try.prog 36 = t36 := ⟨by kernel_rfl, by kernel_rfl⟩
 /-- matchguard/extract.next -/
def t37 : NFn := ⟨42, [(.tmp 6)],
 (.seq
 (.ops [
 ⟨(some 3), .box (.tmp 0), none⟩,
 ⟨(some 4), .box (.tmp 1), none⟩,
 ⟨(some 5), .box (.tmp 2), none⟩,
 ⟨(some 6), .move (.const (.int .i64 0)), none⟩])
 (.seq
 (.seq
 (.ops [
 ⟨(some 10), .off (.tmp 5) 2, none⟩,
 ⟨(some 11), .load 1 false (.tmp 10), none⟩,
 ⟨(some 12), .bin .eql (.tmp 11) (.const (.int .i64 0)), none⟩])
 (.cond (.tmp 12)
 (.seq
 (.ops [
 ⟨(some 13), .off (.tmp 5) 4, none⟩,
 ⟨(some 14), .load 1 false (.tmp 13), none⟩,
 ⟨(some 6), .move (.tmp 14), none⟩])
 .ret)
 .skip))
 (.seq
 (.draw 1 [
 ⟨0, ⟨(some 15), .off (.tmp 4) 0, none⟩, [], 0⟩,
 ⟨1, ⟨(some 16), .load 1 false (.tmp 15), none⟩, [0], 0⟩,
 ⟨2, ⟨(some 17), .load 10 true (.tmp 3), none⟩, [], 0⟩,
 ⟨3, ⟨(some 18), .off (.tmp 5) 2, none⟩, [], 0⟩,
 ⟨4, ⟨(some 19), .load 1 false (.tmp 18), none⟩, [3], 0⟩,
 ⟨5, ⟨(some 20), .call 32 [(.tmp 17), (.tmp 19)], none⟩, [2, 4, 3], 0⟩,
 ⟨6, ⟨(some 21), .idxSl (.tmp 16) (.tmp 20) 2, none⟩, [1, 0, 5, 2, 4, 3], 0⟩,
 ⟨7, ⟨(some 22), .load 2 true (.tmp 21), none⟩, [6, 1, 0, 5, 2, 4, 3], 0⟩,
 ⟨8, ⟨(some 7), .alloc [(.int .u64 0), (.int .u64 0)], none⟩, [], 0⟩,
 ⟨9, ⟨none, .store 2 (.tmp 7) (.tmp 22), none⟩, [8, 7, 6, 1, 0, 5, 2, 4, 3], 1⟩])
 (.seq
 (.seq
 (.ops [
 ⟨(some 23), .off (.tmp 5) 3, none⟩,
 ⟨(some 24), .load 1 false (.tmp 23), none⟩,
 ⟨(some 25), .lenSl (.tmp 24), none⟩,
 ⟨(some 26), .move (.const (.int .i64 0)), none⟩])
 (.block 0
 (.loop
 (.seq
 (.ops [
 ⟨(some 27), .bin .lss (.tmp 26) (.tmp 25), none⟩])
 (.seq
 (.cond (.tmp 27)
 .skip
 (.exit 0))
 (.seq
 (.block 1
 (.seq
 (.ops [
 ⟨(some 28), .idxSl (.tmp 24) (.tmp 26) 5, none⟩,
 ⟨(some 29), .load 5 true (.tmp 28), none⟩,
 ⟨(some 9), .alloc [(.int .u64 0), (.int .u64 0), (.int .u64 0), (.int .u64 0), (.int .i64 0)], none⟩,
 ⟨none, .store 5 (.tmp 9) (.tmp 29), none⟩])
 (.seq
 (.draw 0 [
 ⟨0, ⟨(some 30), .load 2 true (.tmp 7), none⟩, [], 0⟩,
 ⟨1, ⟨(some 31), .off (.tmp 9) 2, none⟩, [], 0⟩,
 ⟨2, ⟨(some 32), .load 2 true (.tmp 31), none⟩, [1], 0⟩,
 ⟨3, ⟨(some 33), .call 61 [(.tmp 30), (.tmp 32)], none⟩, [0, 2, 1], 0⟩,
 ⟨4, ⟨(some 34), .off (.tmp 9) 0, none⟩, [], 0⟩,
 ⟨5, ⟨(some 35), .load 2 true (.tmp 34), none⟩, [4], 0⟩,
 ⟨6, ⟨(some 36), .eq false true [.int, .int] (.tmp 33) (.tmp 35), none⟩, [3, 0, 2, 1, 5, 4], 0⟩])
 (.cond (.tmp 36)
 (.seq
 (.ops [
 ⟨(some 37), .off (.tmp 9) 4, none⟩,
 ⟨(some 38), .load 1 false (.tmp 37), none⟩,
 ⟨(some 6), .move (.tmp 38), none⟩])
 .ret)
 .skip))))
 (.ops [
 ⟨(some 39), .bin .add (.tmp 26) (.const (.int .i64 1)), none⟩,
 ⟨(some 26), .move (.tmp 39), none⟩])))))))
 (.seq
 (.ops [
 ⟨(some 40), .off (.tmp 5) 4, none⟩,
 ⟨(some 41), .load 1 false (.tmp 40), none⟩,
 ⟨(some 6), .move (.tmp 41), none⟩])
 .ret)))))⟩
theorem t37_ok : goodFn Try.prog 37 = true ∧ cfn Try.prog 37 = t37 := ⟨by kernel_rfl, by kernel_rfl⟩
 /-- matchguard/check.StateOf -/
def t38 : NFn := ⟨9, [(.tmp 4)],
 (.seq
 (.ops [
 ⟨(some 2), .box (.tmp 0), none⟩,
 ⟨(some 3), .box (.tmp 1), none⟩,
 ⟨(some 4), .move (.const (.int .i64 0)), none⟩])
 (.seq
 (.ops [
 ⟨(some 5), .off (.tmp 2) 2, none⟩,
 ⟨(some 6), .load 1 false (.tmp 5), none⟩,
 ⟨(some 7), .mkfunc (.func 63) [] [(.tmp 3)], none⟩,
 ⟨(some 8), .call 62 [(.tmp 6), (.tmp 7)], none⟩,
 ⟨(some 4), .move (.tmp 8), none⟩])
 .ret))⟩
theorem t38_ok : goodFn Try.prog 38 = true ∧ cfn Try.prog 38 = t38 := ⟨by kernel_rfl, by kernel_rfl⟩
 /-- matchguard/matchguardref28.header -/
def t39 : NFn := ⟨94, [(.tmp 6)],
 (.seq
 (.ops [
 ⟨(some 3), .box (.tmp 0), none⟩,
 ⟨(some 6), .move (.const (.bool false)), none⟩])
 (.seq
 (.draw 0 [
 ⟨0, ⟨(some 14), .load 10 true (.tmp 3), none⟩, [], 0⟩,
 ⟨1, ⟨(some 15), .off (.tmp 3) 1, none⟩, [], 0⟩,
 ⟨2, ⟨(some 16), .load 1 false (.tmp 15), none⟩, [1], 0⟩,
 ⟨3, ⟨(some 17), .move (.tmp 2), none⟩, [], 0⟩,
 ⟨4, ⟨(some 18), .idxSl (.tmp 16) (.tmp 17) 3, none⟩, [2, 1, 3], 0⟩,
 ⟨5, ⟨(some 19), .load 3 true (.tmp 18), none⟩, [4, 2, 1, 3], 0⟩,
 ⟨6, ⟨(some 20), .call 64 [(.tmp 14), (.tmp 19)], none⟩, [0, 5, 4, 2, 1, 3], 0⟩,
 ⟨7, ⟨(some 21), .bin .quo (.tmp 20) (.const (.int .i64 8)), none⟩, [6, 0, 5, 4, 2, 1, 3], 0⟩,
 ⟨8, ⟨(some 7), .move (.tmp 21), none⟩, [7, 6, 0, 5, 4, 2, 1, 3], 0⟩])
 (.seq
 (.seq
 (.ops [
 ⟨(some 22), .move (.tmp 1), none⟩,
 ⟨(some 23), .nilCheck (.tmp 22), none⟩,
 ⟨(some 24), .off (.tmp 23) 2, none⟩,
 ⟨(some 25), .load 1 false (.tmp 24), none⟩,
 ⟨(some 26), .lenSl (.tmp 25), none⟩,
 ⟨(some 27), .move (.tmp 7), none⟩,
 ⟨(some 28), .bin .lss (.tmp 26) (.tmp 27), none⟩])
 (.cond (.tmp 28)
 (.seq
 (.ops [
 ⟨(some 6), .move (.const (.bool false)), none⟩])
 .ret)
 .skip))
 (.seq
 (.ops [
 ⟨(some 8), .move (.const (.int .i64 0)), none⟩])
 (.seq
 (.seq
 (.ops [
 ⟨(some 29), .off (.tmp 3) 1, none⟩,
 ⟨(some 30), .load 1 false (.tmp 29), none⟩,
 ⟨(some 31), .move (.tmp 2), none⟩,
 ⟨(some 32), .idxSl (.tmp 30) (.tmp 31) 3, none⟩,
 ⟨(some 33), .off (.tmp 32) 2, none⟩,
 ⟨(some 34), .load 1 false (.tmp 33), none⟩,
 ⟨(some 35), .lenSl (.tmp 34), none⟩,
 ⟨(some 36), .move (.const (.int .i64 0)), none⟩])
 (.block 0
 (.loop
 (.seq
 (.ops [
 ⟨(some 37), .bin .lss (.tmp 36) (.tmp 35), none⟩])
 (.seq
 (.cond (.tmp 37)
 .skip
 (.exit 0))
 (.seq
 (.block 1
 (.seq
 (.ops [
 ⟨(some 38), .idxSl (.tmp 34) (.tmp 36) 1, none⟩,
 ⟨(some 39), .load 1 false (.tmp 38), none⟩,
 ⟨(some 10), .move (.tmp 39), none⟩])
 (.seq
 (.ops [
 ⟨(some 11), .alloc (fill 128 (.bool false)), none⟩])
 (.seq
 (.ops [
 ⟨(some 40), .load 10 true (.tmp 3), none⟩,
 ⟨(some 41), .move (.tmp 10), none⟩,
 ⟨(some 42), .call 65 [(.tmp 40), (.tmp 41)], none⟩,
 ⟨(some 12), .move (.tmp 42), none⟩])
 (.seq
 (.seq
 (.ops [
 ⟨(some 43), .move (.tmp 12), none⟩,
 ⟨(some 44), .bin .sub (.tmp 43) (.const (.int .i64 1)), none⟩,
 ⟨(some 13), .move (.tmp 44), none⟩])
 (.block 2
 (.loop
 (.seq
 (.seq
 (.ops [
 ⟨(some 45), .move (.tmp 13), none⟩,
 ⟨(some 46), .bin .geq (.tmp 45) (.const (.int .i64 0)), none⟩])
 (.cond (.tmp 46)
 .skip
 (.exit 2)))
 (.seq
 (.block 3
 (.seq
 (.ops [
 ⟨(some 49), .move (.tmp 13), none⟩,
 ⟨(some 50), .move (.tmp 1), none⟩,
 ⟨(some 51), .nilCheck (.tmp 50), none⟩,
 ⟨(some 52), .off (.tmp 51) 2, none⟩,
 ⟨(some 53), .load 1 false (.tmp 52), none⟩,
 ⟨(some 54), .move (.tmp 8), none⟩,
 ⟨(some 55), .bin .quo (.tmp 54) (.const (.int .i64 8)), none⟩,
 ⟨(some 56), .idxSl (.tmp 53) (.tmp 55) 1, none⟩,
 ⟨(some 57), .load 1 false (.tmp 56), none⟩,
 ⟨(some 58), .move (.tmp 8), none⟩,
 ⟨(some 59), .bin .rem (.tmp 58) (.const (.int .i64 8)), none⟩,
 ⟨(some 60), .bin .sub (.const (.int .i64 7)) (.tmp 59), none⟩,
 ⟨(some 61), .conv .u64 (.tmp 60), none⟩,
 ⟨(some 62), .bin .shr (.tmp 57) (.tmp 61), none⟩,
 ⟨(some 63), .bin .and (.tmp 62) (.const (.int .u8 1)), none⟩,
 ⟨(some 64), .bin .eql (.tmp 63) (.const (.int .u8 1)), none⟩,
 ⟨(some 65), .idxArr (.tmp 11) (.tmp 49) 128 1, none⟩,
 ⟨none, .store 1 (.tmp 65) (.tmp 64), none⟩])
 (.ops [
 ⟨(some 66), .move (.tmp 8), none⟩,
 ⟨(some 67), .bin .add (.tmp 66) (.const (.int .i64 1)), none⟩,
 ⟨(some 8), .move (.tmp 67), none⟩])))
 (.ops [
 ⟨(some 47), .move (.tmp 13), none⟩,
 ⟨(some 48), .bin .sub (.tmp 47) (.const (.int .i64 1)), none⟩,
 ⟨(some 13), .move (.tmp 48), none⟩]))))))
 (.draw 0 [
 ⟨0, ⟨(some 68), .move (.tmp 1), none⟩, [], 0⟩,
 ⟨1, ⟨(some 69), .nilCheck (.tmp 68), none⟩, [0], 0⟩,
 ⟨2, ⟨(some 70), .off (.tmp 69) 0, none⟩, [1, 0], 0⟩,
 ⟨3, ⟨(some 71), .load 1 false (.tmp 70), none⟩, [2, 1, 0], 0⟩,
 ⟨4, ⟨(some 72), .load 10 true (.tmp 3), none⟩, [], 0⟩,
 ⟨5, ⟨(some 73), .move (.tmp 10), none⟩, [], 0⟩,
 ⟨6, ⟨(some 74), .call 23 [(.tmp 72), (.tmp 73)], none⟩, [4, 5], 0⟩,
 ⟨7, ⟨(some 75), .load 128 true (.tmp 11), none⟩, [], 0⟩,
 ⟨8, ⟨(some 76), .call 44 [(.tmp 75)], none⟩, [7, 6, 4, 5], 0⟩,
 ⟨9, ⟨(some 77), .idxSl (.tmp 71) (.tmp 74) 2, none⟩, [3, 2, 1, 0, 6, 4, 5, 7, 8], 0⟩,
 ⟨10, ⟨none, .store 2 (.tmp 77) (.tmp 76), none⟩, [9, 3, 2, 1, 0, 6, 4, 5, 7, 8], 0⟩]))))))
 (.ops [
 ⟨(some 78), .bin .add (.tmp 36) (.const (.int .i64 1)), none⟩,
 ⟨(some 36), .move (.tmp 78), none⟩])))))))
 (.seq
 (.draw 0 [
 ⟨0, ⟨(some 79), .move (.tmp 1), none⟩, [], 0⟩,
 ⟨1, ⟨(some 80), .nilCheck (.tmp 79), none⟩, [0], 0⟩,
 ⟨2, ⟨(some 81), .off (.tmp 80) 1, none⟩, [1, 0], 0⟩,
 ⟨3, ⟨(some 82), .load 1 false (.tmp 81), none⟩, [2, 1, 0], 0⟩,
 ⟨4, ⟨(some 83), .move (.tmp 2), none⟩, [], 0⟩,
 ⟨5, ⟨(some 84), .move (.tmp 1), none⟩, [], 0⟩,
 ⟨6, ⟨(some 85), .move (.tmp 1), none⟩, [], 0⟩,
 ⟨7, ⟨(some 86), .nilCheck (.tmp 85), none⟩, [6], 0⟩,
 ⟨8, ⟨(some 87), .off (.tmp 86) 2, none⟩, [7, 6], 0⟩,
 ⟨9, ⟨(some 88), .load 1 false (.tmp 87), none⟩, [8, 7, 6], 0⟩,
 ⟨10, ⟨(some 89), .move (.tmp 7), none⟩, [], 0⟩,
 ⟨11, ⟨(some 90), .slice (.tmp 88) (some (.tmp 89)) none none 1, none⟩, [9, 8, 7, 6, 10], 0⟩,
 ⟨12, ⟨(some 91), .idxSl (.tmp 82) (.tmp 83) 1, none⟩, [3, 2, 1, 0, 4, 9, 8, 7, 6], 0⟩,
 ⟨13, ⟨none, .store 1 (.tmp 91) (.const (.bool true)), none⟩, [12, 3, 2, 1, 0, 4, 9, 8, 7, 6], 0⟩,
 ⟨14, ⟨(some 92), .nilCheck (.tmp 84), none⟩, [5, 0, 1, 2, 3, 4, 6, 7, 8, 9, 10, 11, 12, 13], 0⟩,
 ⟨15, ⟨(some 93), .off (.tmp 92) 2, none⟩, [14, 5, 0, 1, 2, 3, 4, 6, 7, 8, 9, 10, 11, 12, 13], 0⟩,
 ⟨16, ⟨none, .store 1 (.tmp 93) (.tmp 90), none⟩, [15, 14, 5, 0, 1, 2, 3, 4, 6, 7, 8, 9, 10, 11, 12, 13], 0⟩])
 (.seq
 (.ops [
 ⟨(some 6), .move (.const (.bool true)), none⟩])
 .ret)))))))⟩
theorem t39_ok : goodFn Try.prog 39 = true ∧ cfn Try.prog 39 = t39 := ⟨by kernel_rfl, by kernel_rfl⟩
 /-- matchguard/matchguardref04.HeaderOf -/
def t40 : NFn := ⟨10, [(.tmp 4)],
 (.seq
 (.ops [
 ⟨(some 2), .box (.tmp 0), none⟩,
 ⟨(some 4), .move (.const (.int .i64 0)), none⟩])
 (.seq
 (.ops [
 ⟨(some 5), .load 10 true (.tmp 2), none⟩,
 ⟨(some 6), .call 48 [(.tmp 5)], none⟩,
 ⟨(some 7), .indexv (.tmp 6) (.const (.int .i64 1)) 6 1 false, none⟩,
 ⟨(some 8), .move (.tmp 1), none⟩,
 ⟨(some 9), .call 47 [(.tmp 7), (.tmp 8)], none⟩,
 ⟨(some 4), .move (.tmp 9), none⟩])
 .ret))⟩
theorem t40_ok : goodFn Try.prog 40 = true ∧ cfn Try.prog 40 = t40 := ⟨by kernel_rfl, by kernel_rfl⟩
 /-- matchguard/matchguardref28.next -/
def t41 : NFn := ⟨42, [(.tmp 6)],
 (.seq
 (.ops [
 ⟨(some 3), .box (.tmp 0), none⟩,
 ⟨(some 4), .box (.tmp 1), none⟩,
 ⟨(some 5), .box (.tmp 2), none⟩,
 ⟨(some 6), .move (.const (.int .i64 0)), none⟩])
 (.seq
 (.seq
 (.ops [
 ⟨(some 10), .off (.tmp 5) 2, none⟩,
 ⟨(some 11), .load 1 false (.tmp 10), none⟩,
 ⟨(some 12), .bin .eql (.tmp 11) (.const (.int .i64 0)), none⟩])
 (.cond (.tmp 12)
 (.seq
 (.ops [
 ⟨(some 13), .off (.tmp 5) 4, none⟩,
 ⟨(some 14), .load 1 false (.tmp 13), none⟩,
 ⟨(some 6), .move (.tmp 14), none⟩])
 .ret)
 .skip))
 (.seq
 (.draw 1 [
 ⟨0, ⟨(some 15), .off (.tmp 4) 0, none⟩, [], 0⟩,
 ⟨1, ⟨(some 16), .load 1 false (.tmp 15), none⟩, [0], 0⟩,
 ⟨2, ⟨(some 17), .load 10 true (.tmp 3), none⟩, [], 0⟩,
 ⟨3, ⟨(some 18), .off (.tmp 5) 2, none⟩, [], 0⟩,
 ⟨4, ⟨(some 19), .load 1 false (.tmp 18), none⟩, [3], 0⟩,
 ⟨5, ⟨(some 20), .call 23 [(.tmp 17), (.tmp 19)], none⟩, [2, 4, 3], 0⟩,
 ⟨6, ⟨(some 21), .idxSl (.tmp 16) (.tmp 20) 2, none⟩, [1, 0, 5, 2, 4, 3], 0⟩,
 ⟨7, ⟨(some 22), .load 2 true (.tmp 21), none⟩, [6, 1, 0, 5, 2, 4, 3], 0⟩,
 ⟨8, ⟨(some 7), .alloc [(.int .u64 0), (.int .u64 0)], none⟩, [], 0⟩,
 ⟨9, ⟨none, .store 2 (.tmp 7) (.tmp 22), none⟩, [8, 7, 6, 1, 0, 5, 2, 4, 3], 1⟩])
 (.seq
 (.seq
 (.ops [
 ⟨(some 23), .off (.tmp 5) 3, none⟩,
 ⟨(some 24), .load 1 false (.tmp 23), none⟩,
 ⟨(some 25), .lenSl (.tmp 24), none⟩,
 ⟨(some 26), .move (.const (.int .i64 0)), none⟩])
 (.block 0
 (.loop
 (.seq
 (.ops [
 ⟨(some 27), .bin .lss (.tmp 26) (.tmp 25), none⟩])
 (.seq
 (.cond (.tmp 27)
 .skip
 (.exit 0))
 (.seq
 (.block 1
 (.seq
 (.ops [
 ⟨(some 28), .idxSl (.tmp 24) (.tmp 26) 5, none⟩,
 ⟨(some 29), .load 5 true (.tmp 28), none⟩,
 ⟨(some 9), .alloc [(.int .u64 0), (.int .u64 0), (.int .u64 0), (.int .u64 0), (.int .i64 0)], none⟩,
 ⟨none, .store 5 (.tmp 9) (.tmp 29), none⟩])
 (.seq
 (.draw 0 [
 ⟨0, ⟨(some 30), .load 2 true (.tmp 7), none⟩, [], 0⟩,
 ⟨1, ⟨(some 31), .off (.tmp 9) 2, none⟩, [], 0⟩,
 ⟨2, ⟨(some 32), .load 2 true (.tmp 31), none⟩, [1], 0⟩,
 ⟨3, ⟨(some 33), .call 66 [(.tmp 30), (.tmp 32)], none⟩, [0, 2, 1], 0⟩,
 ⟨4, ⟨(some 34), .off (.tmp 9) 0, none⟩, [], 0⟩,
 ⟨5, ⟨(some 35), .load 2 true (.tmp 34), none⟩, [4], 0⟩,
 ⟨6, ⟨(some 36), .eq false true [.int, .int] (.tmp 33) (.tmp 35), none⟩, [3, 0, 2, 1, 5, 4], 0⟩])
 (.cond (.tmp 36)
 (.seq
 (.ops [
 ⟨(some 37), .off (.tmp 9) 4, none⟩,
 ⟨(some 38), .load 1 false (.tmp 37), none⟩,
 ⟨(some 6), .move (.tmp 38), none⟩])
 .ret)
 .skip))))
 (.ops [
 ⟨(some 39), .bin .add (.tmp 26) (.const (.int .i64 1)), none⟩,
 ⟨(some 26), .move (.tmp 39), none⟩])))))))
 (.seq
 (.ops [
 ⟨(some 40), .off (.tmp 5) 4, none⟩,
 ⟨(some 41), .load 1 false (.tmp 40), none⟩,
 ⟨(some 6), .move (.tmp 41), none⟩])
 .ret)))))⟩
theorem t41_ok : goodFn Try.prog 41 = true ∧ cfn Try.prog 41 = t41 := ⟨by kernel_rfl, by kernel_rfl⟩
 /-- matchguard/matchguardref04.StateOf -/
def t42 : NFn := ⟨10, [(.tmp 4)],
 (.seq
 (.ops [
 ⟨(some 2), .box (.tmp 0), none⟩,
 ⟨(some 4), .move (.const (.int .i64 0)), none⟩])
 (.seq
 (.ops [
 ⟨(some 5), .load 10 true (.tmp 2), none⟩,
 ⟨(some 6), .call 48 [(.tmp 5)], none⟩,
 ⟨(some 7), .indexv (.tmp 6) (.const (.int .i64 2)) 6 1 false, none⟩,
 ⟨(some 8), .move (.tmp 1), none⟩,
 ⟨(some 9), .call 47 [(.tmp 7), (.tmp 8)], none⟩,
 ⟨(some 4), .move (.tmp 9), none⟩])
 .ret))⟩
theorem t42_ok : goodFn Try.prog 42 = true ∧ cfn Try.prog 42 = t42 := ⟨by kernel_rfl, by kernel_rfl⟩
 /-- matchguard/matchguardref01.Read -/
def t43 : NFn := ⟨29, [(.cell 2 128 true)],
 (.seq
 (.ops [
 ⟨(some 1), .box (.tmp 0), none⟩,
 ⟨(some 2), .alloc (fill 128 (.bool false)), none⟩])
 (.seq
 (.ops [
 ⟨(some 3), .alloc (fill 128 (.bool false)), none⟩])
 (.seq
 (.seq
 (.ops [
 ⟨(some 4), .move (.const (.int .i64 0)), none⟩])
 (.block 0
 (.loop
 (.seq
 (.seq
 (.ops [
 ⟨(some 5), .move (.tmp 4), none⟩,
 ⟨(some 6), .bin .lss (.tmp 5) (.const (.int .i64 64)), none⟩])
 (.cond (.tmp 6)
 .skip
 (.exit 0)))
 (.seq
 (.block 1
 (.draw 0 [
 ⟨0, ⟨(some 9), .move (.tmp 4), none⟩, [], 0⟩,
 ⟨1, ⟨(some 10), .move (.tmp 4), none⟩, [], 0⟩,
 ⟨2, ⟨(some 11), .bin .add (.tmp 10) (.const (.int .i64 64)), none⟩, [1], 0⟩,
 ⟨3, ⟨(some 12), .off (.tmp 1) 1, none⟩, [], 0⟩,
 ⟨4, ⟨(some 13), .load 1 false (.tmp 12), none⟩, [3], 0⟩,
 ⟨5, ⟨(some 14), .move (.tmp 4), none⟩, [], 0⟩,
 ⟨6, ⟨(some 15), .conv .u64 (.tmp 14), none⟩, [5], 0⟩,
 ⟨7, ⟨(some 16), .bin .shr (.tmp 13) (.tmp 15), none⟩, [4, 3, 6, 5], 0⟩,
 ⟨8, ⟨(some 17), .bin .and (.tmp 16) (.const (.int .u64 1)), none⟩, [7, 4, 3, 6, 5], 0⟩,
 ⟨9, ⟨(some 18), .bin .eql (.tmp 17) (.const (.int .u64 1)), none⟩, [8, 7, 4, 3, 6, 5], 0⟩,
 ⟨10, ⟨(some 19), .off (.tmp 1) 0, none⟩, [], 0⟩,
 ⟨11, ⟨(some 20), .load 1 false (.tmp 19), none⟩, [10], 0⟩,
 ⟨12, ⟨(some 21), .move (.tmp 4), none⟩, [], 0⟩,
 ⟨13, ⟨(some 22), .conv .u64 (.tmp 21), none⟩, [12], 0⟩,
 ⟨14, ⟨(some 23), .bin .shr (.tmp 20) (.tmp 22), none⟩, [11, 10, 13, 12], 0⟩,
 ⟨15, ⟨(some 24), .bin .and (.tmp 23) (.const (.int .u64 1)), none⟩, [14, 11, 10, 13, 12], 0⟩,
 ⟨16, ⟨(some 25), .bin .eql (.tmp 24) (.const (.int .u64 1)), none⟩, [15, 14, 11, 10, 13, 12], 0⟩,
 ⟨17, ⟨(some 26), .idxArr (.tmp 3) (.tmp 9) 128 1, none⟩, [0, 3, 4, 5, 6, 7, 8, 9], 0⟩,
 ⟨18, ⟨none, .store 1 (.tmp 26) (.tmp 18), none⟩, [17, 0, 3, 4, 5, 6, 7, 8, 9], 0⟩,
 ⟨19, ⟨(some 27), .idxArr (.tmp 3) (.tmp 11) 128 1, none⟩, [2, 1, 0, 3, 4, 5, 6, 7, 8, 9, 10, 11, 12, 13, 14, 15, 16, 17, 18], 0⟩,
 ⟨20, ⟨none, .store 1 (.tmp 27) (.tmp 25), none⟩, [19, 2, 1, 0, 3, 4, 5, 6, 7, 8, 9, 10, 11, 12, 13, 14, 15, 16, 17, 18], 0⟩]))
 (.ops [
 ⟨(some 7), .move (.tmp 4), none⟩,
 ⟨(some 8), .bin .add (.tmp 7) (.const (.int .i64 1)), none⟩,
 ⟨(some 4), .move (.tmp 8), none⟩]))))))
 (.seq
 (.ops [
 ⟨(some 28), .load 128 true (.tmp 3), none⟩,
 ⟨none, .store 128 (.tmp 2) (.tmp 28), none⟩])
 .ret))))⟩
theorem t43_ok : goodFn Try.prog 43 = true ∧ cfn Try.prog 43 = t43 := ⟨by kernel_rfl, by kernel_rfl⟩
 /-- matchguard/matchguardref01.Make -/
def t44 : NFn := ⟨31, [(.cell 2 2 true)],
 (.seq
 (.ops [
 ⟨(some 1), .box (.tmp 0), none⟩,
 ⟨(some 2), .alloc [(.int .u64 0), (.int .u64 0)], none⟩])
 (.seq
 (.ops [
 ⟨(some 3), .alloc [(.int .u64 0), (.int .u64 0)], none⟩])
 (.seq
 (.seq
 (.ops [
 ⟨(some 4), .move (.const (.int .i64 0)), none⟩])
 (.block 0
 (.loop
 (.seq
 (.seq
 (.ops [
 ⟨(some 5), .move (.tmp 4), none⟩,
 ⟨(some 6), .bin .lss (.tmp 5) (.const (.int .i64 64)), none⟩])
 (.cond (.tmp 6)
 .skip
 (.exit 0)))
 (.seq
 (.block 1
 (.seq
 (.seq
 (.ops [
 ⟨(some 9), .move (.tmp 4), none⟩,
 ⟨(some 10), .idxArr (.tmp 1) (.tmp 9) 128 1, none⟩,
 ⟨(some 11), .load 1 false (.tmp 10), none⟩])
 (.cond (.tmp 11)
 (.ops [
 ⟨(some 12), .off (.tmp 3) 1, none⟩,
 ⟨(some 13), .load 1 false (.tmp 12), none⟩,
 ⟨(some 14), .move (.tmp 4), none⟩,
 ⟨(some 15), .conv .u64 (.tmp 14), none⟩,
 ⟨(some 16), .bin .shl (.const (.int .u64 1)) (.tmp 15), none⟩,
 ⟨(some 17), .bin .or (.tmp 13) (.tmp 16), none⟩,
 ⟨(some 18), .off (.tmp 3) 1, none⟩,
 ⟨none, .store 1 (.tmp 18) (.tmp 17), none⟩])
 .skip))
 (.seq
 (.ops [
 ⟨(some 19), .move (.tmp 4), none⟩,
 ⟨(some 20), .bin .add (.tmp 19) (.const (.int .i64 64)), none⟩,
 ⟨(some 21), .idxArr (.tmp 1) (.tmp 20) 128 1, none⟩,
 ⟨(some 22), .load 1 false (.tmp 21), none⟩])
 (.cond (.tmp 22)
 (.ops [
 ⟨(some 23), .off (.tmp 3) 0, none⟩,
 ⟨(some 24), .load 1 false (.tmp 23), none⟩,
 ⟨(some 25), .move (.tmp 4), none⟩,
 ⟨(some 26), .conv .u64 (.tmp 25), none⟩,
 ⟨(some 27), .bin .shl (.const (.int .u64 1)) (.tmp 26), none⟩,
 ⟨(some 28), .bin .or (.tmp 24) (.tmp 27), none⟩,
 ⟨(some 29), .off (.tmp 3) 0, none⟩,
 ⟨none, .store 1 (.tmp 29) (.tmp 28), none⟩])
 .skip))))
 (.ops [
 ⟨(some 7), .move (.tmp 4), none⟩,
 ⟨(some 8), .bin .add (.tmp 7) (.const (.int .i64 1)), none⟩,
 ⟨(some 4), .move (.tmp 8), none⟩]))))))
 (.seq
 (.ops [
 ⟨(some 30), .load 2 true (.tmp 3), none⟩,
 ⟨none, .store 2 (.tmp 2) (.tmp 30), none⟩])
 .ret))))⟩
theorem t44_ok : goodFn Try.prog 44 = true ∧ cfn Try.prog 44 = t44 := ⟨by kernel_rfl, by kernel_rfl⟩
 /-- matchguard/matchguardref04.index -/
def t47 : NFn := ⟨19, [(.tmp 4)],
 (.seq
 (.ops [
 ⟨(some 4), .move (.const (.int .i64 0)), none⟩])
 (.seq
 (.seq
 (.ops [
 ⟨(some 7), .move (.tmp 0), none⟩,
 ⟨(some 8), .lenSl (.tmp 7), none⟩,
 ⟨(some 9), .move (.const (.int .i64 0)), none⟩])
 (.block 0
 (.loop
 (.seq
 (.ops [
 ⟨(some 10), .bin .lss (.tmp 9) (.tmp 8), none⟩])
 (.seq
 (.cond (.tmp 10)
 .skip
 (.exit 0))
 (.seq
 (.block 1
 (.seq
 (.ops [
 ⟨(some 11), .move (.tmp 9), none⟩,
 ⟨(some 12), .idxSl (.tmp 7) (.tmp 9) 1, none⟩,
 ⟨(some 13), .load 1 false (.tmp 12), none⟩,
 ⟨(some 5), .move (.tmp 11), none⟩,
 ⟨(some 6), .move (.tmp 13), none⟩])
 (.seq
 (.ops [
 ⟨(some 14), .move (.tmp 6), none⟩,
 ⟨(some 15), .move (.tmp 1), none⟩,
 ⟨(some 16), .bin .eql (.tmp 14) (.tmp 15), none⟩])
 (.cond (.tmp 16)
 (.seq
 (.ops [
 ⟨(some 17), .move (.tmp 5), none⟩,
 ⟨(some 4), .move (.tmp 17), none⟩])
 .ret)
 .skip))))
 (.ops [
 ⟨(some 18), .bin .add (.tmp 9) (.const (.int .i64 1)), none⟩,
 ⟨(some 9), .move (.tmp 18), none⟩])))))))
 (.seq
 (.ops [
 ⟨(some 4), .move (.const (.int .i64 (-1))), none⟩])
 .ret)))⟩
theorem t47_ok : goodFn Try.prog 47 = true ∧ cfn Try.prog 47 = t47 := ⟨by kernel_rfl, by kernel_rfl⟩
 /-- matchguard/matchguardref04.ids -/
def t48 : NFn := ⟨107, [(.cell 2 6 true)],
 (.seq
 (.ops [
 ⟨(some 1), .box (.tmp 0), none⟩,
 ⟨(some 2), .alloc [(.slice none 0 (.fix 0)), (.slice none 0 (.fix 0)), (.slice none 0 (.fix 0)), (.slice none 0 (.fix 0)), (.slice none 0 (.fix 0)), (.slice none 0 (.fix 0))], none⟩])
 (.seq
 (.ops [
 ⟨(some 3), .alloc [(.slice none 0 (.fix 0)), (.slice none 0 (.fix 0)), (.slice none 0 (.fix 0)), (.slice none 0 (.fix 0)), (.slice none 0 (.fix 0)), (.slice none 0 (.fix 0))], none⟩])
 (.seq
 (.seq
 (.ops [
 ⟨(some 16), .off (.tmp 1) 0, none⟩,
 ⟨(some 17), .load 1 false (.tmp 16), none⟩,
 ⟨(some 18), .lenSl (.tmp 17), none⟩,
 ⟨(some 19), .move (.const (.int .i64 0)), none⟩])
 (.block 0
 (.loop
 (.seq
 (.ops [
 ⟨(some 20), .bin .lss (.tmp 19) (.tmp 18), none⟩])
 (.seq
 (.cond (.tmp 20)
 .skip
 (.exit 0))
 (.seq
 (.block 1
 (.seq
 (.ops [
 ⟨(some 21), .idxSl (.tmp 17) (.tmp 19) 3, none⟩,
 ⟨(some 22), .load 3 true (.tmp 21), none⟩,
 ⟨(some 5), .alloc [(.int .i64 0), (.str ⟨#[]⟩), (.int .i64 0)], none⟩,
 ⟨none, .store 3 (.tmp 5) (.tmp 22), none⟩])
 (.ops [
 ⟨(some 23), .idxArr (.tmp 3) (.const (.int .i64 0)) 6 1, none⟩,
 ⟨(some 24), .load 1 false (.tmp 23), none⟩,
 ⟨(some 25), .off (.tmp 5) 0, none⟩,
 ⟨(some 26), .load 1 false (.tmp 25), none⟩,
 ⟨(some 27), .bslice 1 [(.int .i64 0)] [(0, 1, (.tmp 26))], none⟩,
 ⟨(some 28), .append 1 8 (.tmp 24) (.tmp 27), none⟩,
 ⟨(some 29), .idxArr (.tmp 3) (.const (.int .i64 0)) 6 1, none⟩,
 ⟨none, .store 1 (.tmp 29) (.tmp 28), none⟩])))
 (.ops [
 ⟨(some 30), .bin .add (.tmp 19) (.const (.int .i64 1)), none⟩,
 ⟨(some 19), .move (.tmp 30), none⟩])))))))
 (.seq
 (.seq
 (.ops [
 ⟨(some 31), .off (.tmp 1) 1, none⟩,
 ⟨(some 32), .load 1 false (.tmp 31), none⟩,
 ⟨(some 33), .lenSl (.tmp 32), none⟩,
 ⟨(some 34), .move (.const (.int .i64 0)), none⟩])
 (.block 2
 (.loop
 (.seq
 (.ops [
 ⟨(some 35), .bin .lss (.tmp 34) (.tmp 33), none⟩])
 (.seq
 (.cond (.tmp 35)
 .skip
 (.exit 2))
 (.seq
 (.block 3
 (.seq
 (.ops [
 ⟨(some 36), .idxSl (.tmp 32) (.tmp 34) 3, none⟩,
 ⟨(some 37), .load 3 true (.tmp 36), none⟩,
 ⟨(some 7), .alloc [(.int .i64 0), (.str ⟨#[]⟩), (.slice none 0 (.fix 0))], none⟩,
 ⟨none, .store 3 (.tmp 7) (.tmp 37), none⟩])
 (.ops [
 ⟨(some 38), .idxArr (.tmp 3) (.const (.int .i64 1)) 6 1, none⟩,
 ⟨(some 39), .load 1 false (.tmp 38), none⟩,
 ⟨(some 40), .off (.tmp 7) 0, none⟩,
 ⟨(some 41), .load 1 false (.tmp 40), none⟩,
 ⟨(some 42), .bslice 1 [(.int .i64 0)] [(0, 1, (.tmp 41))], none⟩,
 ⟨(some 43), .append 1 8 (.tmp 39) (.tmp 42), none⟩,
 ⟨(some 44), .idxArr (.tmp 3) (.const (.int .i64 1)) 6 1, none⟩,
 ⟨none, .store 1 (.tmp 44) (.tmp 43), none⟩])))
 (.ops [
 ⟨(some 45), .bin .add (.tmp 34) (.const (.int .i64 1)), none⟩,
 ⟨(some 34), .move (.tmp 45), none⟩])))))))
 (.seq
 (.seq
 (.ops [
 ⟨(some 46), .off (.tmp 1) 2, none⟩,
 ⟨(some 47), .load 1 false (.tmp 46), none⟩,
 ⟨(some 48), .lenSl (.tmp 47), none⟩,
 ⟨(some 49), .move (.const (.int .i64 0)), none⟩])
 (.block 4
 (.loop
 (.seq
 (.ops [
 ⟨(some 50), .bin .lss (.tmp 49) (.tmp 48), none⟩])
 (.seq
 (.cond (.tmp 50)
 .skip
 (.exit 4))
 (.seq
 (.block 5
 (.seq
 (.ops [
 ⟨(some 51), .idxSl (.tmp 47) (.tmp 49) 5, none⟩,
 ⟨(some 52), .load 5 true (.tmp 51), none⟩,
 ⟨(some 9), .alloc [(.int .i64 0), (.int .i64 0), (.int .i64 0), (.slice none 0 (.fix 0)), (.int .i64 0)], none⟩,
 ⟨none, .store 5 (.tmp 9) (.tmp 52), none⟩])
 (.ops [
 ⟨(some 53), .idxArr (.tmp 3) (.const (.int .i64 2)) 6 1, none⟩,
 ⟨(some 54), .load 1 false (.tmp 53), none⟩,
 ⟨(some 55), .off (.tmp 9) 0, none⟩,
 ⟨(some 56), .load 1 false (.tmp 55), none⟩,
 ⟨(some 57), .bslice 1 [(.int .i64 0)] [(0, 1, (.tmp 56))], none⟩,
 ⟨(some 58), .append 1 8 (.tmp 54) (.tmp 57), none⟩,
 ⟨(some 59), .idxArr (.tmp 3) (.const (.int .i64 2)) 6 1, none⟩,
 ⟨none, .store 1 (.tmp 59) (.tmp 58), none⟩])))
 (.ops [
 ⟨(some 60), .bin .add (.tmp 49) (.const (.int .i64 1)), none⟩,
 ⟨(some 49), .move (.tmp 60), none⟩])))))))
 (.seq
 (.seq
 (.ops [
 ⟨(some 61), .off (.tmp 1) 3, none⟩,
 ⟨(some 62), .load 1 false (.tmp 61), none⟩,
 ⟨(some 63), .lenSl (.tmp 62), none⟩,
 ⟨(some 64), .move (.const (.int .i64 0)), none⟩])
 (.block 6
 (.loop
 (.seq
 (.ops [
 ⟨(some 65), .bin .lss (.tmp 64) (.tmp 63), none⟩])
 (.seq
 (.cond (.tmp 65)
 .skip
 (.exit 6))
 (.seq
 (.block 7
 (.seq
 (.ops [
 ⟨(some 66), .idxSl (.tmp 62) (.tmp 64) 5, none⟩,
 ⟨(some 67), .load 5 true (.tmp 66), none⟩,
 ⟨(some 11), .alloc [(.int .i64 0), (.str ⟨#[]⟩), (.slice none 0 (.fix 0)), (.slice none 0 (.fix 0)), (.str ⟨#[]⟩)], none⟩,
 ⟨none, .store 5 (.tmp 11) (.tmp 67), none⟩])
 (.ops [
 ⟨(some 68), .idxArr (.tmp 3) (.const (.int .i64 3)) 6 1, none⟩,
 ⟨(some 69), .load 1 false (.tmp 68), none⟩,
 ⟨(some 70), .off (.tmp 11) 0, none⟩,
 ⟨(some 71), .load 1 false (.tmp 70), none⟩,
 ⟨(some 72), .bslice 1 [(.int .i64 0)] [(0, 1, (.tmp 71))], none⟩,
 ⟨(some 73), .append 1 8 (.tmp 69) (.tmp 72), none⟩,
 ⟨(some 74), .idxArr (.tmp 3) (.const (.int .i64 3)) 6 1, none⟩,
 ⟨none, .store 1 (.tmp 74) (.tmp 73), none⟩])))
 (.ops [
 ⟨(some 75), .bin .add (.tmp 64) (.const (.int .i64 1)), none⟩,
 ⟨(some 64), .move (.tmp 75), none⟩])))))))
 (.seq
 (.seq
 (.ops [
 ⟨(some 76), .off (.tmp 1) 4, none⟩,
 ⟨(some 77), .load 1 false (.tmp 76), none⟩,
 ⟨(some 78), .lenSl (.tmp 77), none⟩,
 ⟨(some 79), .move (.const (.int .i64 0)), none⟩])
 (.block 8
 (.loop
 (.seq
 (.ops [
 ⟨(some 80), .bin .lss (.tmp 79) (.tmp 78), none⟩])
 (.seq
 (.cond (.tmp 80)
 .skip
 (.exit 8))
 (.seq
 (.block 9
 (.seq
 (.ops [
 ⟨(some 81), .idxSl (.tmp 77) (.tmp 79) 8, none⟩,
 ⟨(some 82), .load 8 true (.tmp 81), none⟩,
 ⟨(some 13), .alloc [(.int .i64 0), (.str ⟨#[]⟩), (.slice none 0 (.fix 0)), (.slice none 0 (.fix 0)), (.int .i64 0), (.slice none 0 (.fix 0)), (.int .i64 0), (.str ⟨#[]⟩)], none⟩,
 ⟨none, .store 8 (.tmp 13) (.tmp 82), none⟩])
 (.ops [
 ⟨(some 83), .idxArr (.tmp 3) (.const (.int .i64 4)) 6 1, none⟩,
 ⟨(some 84), .load 1 false (.tmp 83), none⟩,
 ⟨(some 85), .off (.tmp 13) 0, none⟩,
 ⟨(some 86), .load 1 false (.tmp 85), none⟩,
 ⟨(some 87), .bslice 1 [(.int .i64 0)] [(0, 1, (.tmp 86))], none⟩,
 ⟨(some 88), .append 1 8 (.tmp 84) (.tmp 87), none⟩,
 ⟨(some 89), .idxArr (.tmp 3) (.const (.int .i64 4)) 6 1, none⟩,
 ⟨none, .store 1 (.tmp 89) (.tmp 88), none⟩])))
 (.ops [
 ⟨(some 90), .bin .add (.tmp 79) (.const (.int .i64 1)), none⟩,
 ⟨(some 79), .move (.tmp 90), none⟩])))))))
 (.seq
 (.seq
 (.ops [
 ⟨(some 91), .off (.tmp 1) 6, none⟩,
 ⟨(some 92), .load 1 false (.tmp 91), none⟩,
 ⟨(some 93), .lenSl (.tmp 92), none⟩,
 ⟨(some 94), .move (.const (.int .i64 0)), none⟩])
 (.block 10
 (.loop
 (.seq
 (.ops [
 ⟨(some 95), .bin .lss (.tmp 94) (.tmp 93), none⟩])
 (.seq
 (.cond (.tmp 95)
 .skip
 (.exit 10))
 (.seq
 (.block 11
 (.seq
 (.ops [
 ⟨(some 96), .idxSl (.tmp 92) (.tmp 94) 6, none⟩,
 ⟨(some 97), .load 6 true (.tmp 96), none⟩,
 ⟨(some 15), .alloc [(.int .i64 0), (.str ⟨#[]⟩), (.slice none 0 (.fix 0)), (.slice none 0 (.fix 0)), (.int .i64 0), (.bool false)], none⟩,
 ⟨none, .store 6 (.tmp 15) (.tmp 97), none⟩])
 (.ops [
 ⟨(some 98), .idxArr (.tmp 3) (.const (.int .i64 5)) 6 1, none⟩,
 ⟨(some 99), .load 1 false (.tmp 98), none⟩,
 ⟨(some 100), .off (.tmp 15) 0, none⟩,
 ⟨(some 101), .load 1 false (.tmp 100), none⟩,
 ⟨(some 102), .bslice 1 [(.int .i64 0)] [(0, 1, (.tmp 101))], none⟩,
 ⟨(some 103), .append 1 8 (.tmp 99) (.tmp 102), none⟩,
 ⟨(some 104), .idxArr (.tmp 3) (.const (.int .i64 5)) 6 1, none⟩,
 ⟨none, .store 1 (.tmp 104) (.tmp 103), none⟩])))
 (.ops [
 ⟨(some 105), .bin .add (.tmp 94) (.const (.int .i64 1)), none⟩,
 ⟨(some 94), .move (.tmp 105), none⟩])))))))
 (.seq
 (.ops [
 ⟨(some 106), .load 6 true (.tmp 3), none⟩,
 ⟨none, .store 6 (.tmp 2) (.tmp 106), none⟩])
 .ret)))))))))⟩
theorem t48_ok : goodFn Try.prog 48 = true ∧ cfn Try.prog 48 = t48 := ⟨by kernel_rfl, by kernel_rfl⟩
 /-- (*matchguard/matchguardcase.Codes).Left -/
def t49 : NFn := ⟨13, [(.tmp 2)],
 (.seq
 (.ops [
 ⟨(some 2), .move (.const (.bool false)), none⟩])
 (.seq
 (.draw 0 [
 ⟨0, ⟨(some 3), .move (.tmp 0), none⟩, [], 0⟩,
 ⟨1, ⟨(some 4), .nilCheck (.tmp 3), none⟩, [0], 0⟩,
 ⟨2, ⟨(some 5), .off (.tmp 4) 1, none⟩, [1, 0], 0⟩,
 ⟨3, ⟨(some 6), .load 1 false (.tmp 5), none⟩, [2, 1, 0], 0⟩,
 ⟨4, ⟨(some 7), .move (.tmp 0), none⟩, [], 0⟩,
 ⟨5, ⟨(some 8), .nilCheck (.tmp 7), none⟩, [4], 0⟩,
 ⟨6, ⟨(some 9), .off (.tmp 8) 0, none⟩, [5, 4], 0⟩,
 ⟨7, ⟨(some 10), .load 1 false (.tmp 9), none⟩, [6, 5, 4], 0⟩,
 ⟨8, ⟨(some 11), .lenSl (.tmp 10), none⟩, [7, 6, 5, 4], 0⟩,
 ⟨9, ⟨(some 12), .bin .lss (.tmp 6) (.tmp 11), none⟩, [3, 2, 1, 0, 8, 7, 6, 5, 4], 0⟩,
 ⟨10, ⟨(some 2), .move (.tmp 12), none⟩, [9, 3, 2, 1, 0, 8, 7, 6, 5, 4], 0⟩])
 .ret))⟩
theorem t49_ok : goodFn Try.prog 49 = true ∧ cfn Try.prog 49 = t49 := ⟨by kernel_rfl, by kernel_rfl⟩
 /-- (*matchguard/matchguardcase.Codes).step -/
def t50 : NFn := ⟨9, [(.tmp 2)],
 (.seq
 (.ops [
 ⟨(some 2), .move (.const (.int .i64 0)), none⟩])
 (.seq
 (.ops [
 ⟨(some 3), .move (.tmp 0), none⟩,
 ⟨(some 4), .nilCheck (.tmp 3), none⟩,
 ⟨(some 5), .off (.tmp 4) 1, none⟩,
 ⟨(some 6), .load 1 false (.tmp 5), none⟩,
 ⟨(some 7), .bin .mul (.const (.int .i64 2)) (.tmp 6), none⟩,
 ⟨(some 8), .bin .add (.tmp 7) (.const (.int .i64 1)), none⟩,
 ⟨(some 2), .move (.tmp 8), none⟩])
 .ret))⟩
theorem t50_ok : goodFn Try.prog 50 = true ∧ cfn Try.prog 50 = t50 := ⟨by kernel_rfl, by kernel_rfl⟩
 /-- slices.IndexFunc[[]matchguard/api.Field,matchguard/api.Field] -/
def t51 : NFn := ⟨19, [(.tmp 4)],
 (.seq
 (.ops [
 ⟨(some 4), .move (.const (.int .i64 0)), none⟩])
 (.seq
 (.seq
 (.ops [
 ⟨(some 6), .move (.tmp 0), none⟩,
 ⟨(some 7), .lenSl (.tmp 6), none⟩,
 ⟨(some 8), .move (.const (.int .i64 0)), none⟩])
 (.block 0
 (.loop
 (.seq
 (.ops [
 ⟨(some 9), .bin .lss (.tmp 8) (.tmp 7), none⟩])
 (.seq
 (.cond (.tmp 9)
 .skip
 (.exit 0))
 (.seq
 (.block 1
 (.seq
 (.ops [
 ⟨(some 10), .move (.tmp 8), none⟩,
 ⟨(some 5), .move (.tmp 10), none⟩])
 (.seq
 (.ops [
 ⟨(some 11), .move (.tmp 1), none⟩,
 ⟨(some 12), .move (.tmp 0), none⟩,
 ⟨(some 13), .move (.tmp 5), none⟩,
 ⟨(some 14), .idxSl (.tmp 12) (.tmp 13) 3, none⟩,
 ⟨(some 15), .load 3 true (.tmp 14), none⟩,
 ⟨(some 16), .callv (.tmp 11) [(.tmp 15)], none⟩])
 (.cond (.tmp 16)
 (.seq
 (.ops [
 ⟨(some 17), .move (.tmp 5), none⟩,
 ⟨(some 4), .move (.tmp 17), none⟩])
 .ret)
 .skip))))
 (.ops [
 ⟨(some 18), .bin .add (.tmp 8) (.const (.int .i64 1)), none⟩,
 ⟨(some 8), .move (.tmp 18), none⟩])))))))
 (.seq
 (.ops [
 ⟨(some 4), .move (.const (.int .i64 (-1))), none⟩])
 .ret)))⟩
theorem t51_ok : goodFn Try.prog 51 = true ∧ cfn Try.prog 51 = t51 := ⟨by kernel_rfl, by kernel_rfl⟩
 /-- matchguard/check.FieldOf$1 -/
def t52 : NFn := ⟨8, [(.tmp 3)],
 (.seq
 (.ops [
 ⟨(some 2), .box (.tmp 0), none⟩,
 ⟨(some 3), .move (.const (.bool false)), none⟩])
 (.seq
 (.ops [
 ⟨(some 4), .off (.tmp 2) 0, none⟩,
 ⟨(some 5), .load 1 false (.tmp 4), none⟩,
 ⟨(some 6), .load 1 false (.tmp 1), none⟩,
 ⟨(some 7), .bin .eql (.tmp 5) (.tmp 6), none⟩,
 ⟨(some 3), .move (.tmp 7), none⟩])
 .ret))⟩
theorem t52_ok : goodFn Try.prog 52 = true ∧ cfn Try.prog 52 = t52 := ⟨by kernel_rfl, by kernel_rfl⟩
 /-- slices.Clone[[]matchguard/api.Value,matchguard/api.Value] -/
def t53 : NFn := ⟨8, [(.tmp 2)],
 (.seq
 (.ops [
 ⟨(some 2), .move (.const (.slice none 0 (.fix 0))), none⟩])
 (.seq
 (.seq
 (.ops [
 ⟨(some 3), .move (.tmp 0), none⟩,
 ⟨(some 4), .eq false false [.slice] (.tmp 3) (.const (.slice none 0 (.fix 0))), none⟩])
 (.cond (.tmp 4)
 (.seq
 (.ops [
 ⟨(some 2), .move (.const (.slice none 0 (.fix 0))), none⟩])
 .ret)
 .skip))
 (.seq
 (.ops [
 ⟨(some 5), .bslice 0 [] [], none⟩,
 ⟨(some 6), .move (.tmp 0), none⟩,
 ⟨(some 7), .append 2 16 (.tmp 5) (.tmp 6), none⟩,
 ⟨(some 2), .move (.tmp 7), none⟩])
 .ret)))⟩
theorem t53_ok : goodFn Try.prog 53 = true ∧ cfn Try.prog 53 = t53 := ⟨by kernel_rfl, by kernel_rfl⟩
 /-- slices.Clone[[]bool,bool] -/
def t54 : NFn := ⟨8, [(.tmp 2)],
 (.seq
 (.ops [
 ⟨(some 2), .move (.const (.slice none 0 (.fix 0))), none⟩])
 (.seq
 (.seq
 (.ops [
 ⟨(some 3), .move (.tmp 0), none⟩,
 ⟨(some 4), .eq false false [.slice] (.tmp 3) (.const (.slice none 0 (.fix 0))), none⟩])
 (.cond (.tmp 4)
 (.seq
 (.ops [
 ⟨(some 2), .move (.const (.slice none 0 (.fix 0))), none⟩])
 .ret)
 .skip))
 (.seq
 (.ops [
 ⟨(some 5), .bslice 0 [] [], none⟩,
 ⟨(some 6), .move (.tmp 0), none⟩,
 ⟨(some 7), .append 1 1 (.tmp 5) (.tmp 6), none⟩,
 ⟨(some 2), .move (.tmp 7), none⟩])
 .ret)))⟩
theorem t54_ok : goodFn Try.prog 54 = true ∧ cfn Try.prog 54 = t54 := ⟨by kernel_rfl, by kernel_rfl⟩
 /-- matchguard/extract.bitsOf -/
def t55 : NFn := ⟨27, [(.tmp 4)],
 (.seq
 (.ops [
 ⟨(some 2), .box (.tmp 0), none⟩,
 ⟨(some 3), .box (.tmp 1), none⟩,
 ⟨(some 4), .move (.const (.int .i64 0)), none⟩])
 (.seq
 (.ops [
 ⟨(some 5), .move (.const (.int .i64 0)), none⟩])
 (.seq
 (.seq
 (.ops [
 ⟨(some 8), .off (.tmp 3) 2, none⟩,
 ⟨(some 9), .load 1 false (.tmp 8), none⟩,
 ⟨(some 10), .lenSl (.tmp 9), none⟩,
 ⟨(some 11), .move (.const (.int .i64 0)), none⟩])
 (.block 0
 (.loop
 (.seq
 (.ops [
 ⟨(some 12), .bin .lss (.tmp 11) (.tmp 10), none⟩])
 (.seq
 (.cond (.tmp 12)
 .skip
 (.exit 0))
 (.seq
 (.block 1
 (.seq
 (.ops [
 ⟨(some 13), .idxSl (.tmp 9) (.tmp 11) 1, none⟩,
 ⟨(some 14), .load 1 false (.tmp 13), none⟩,
 ⟨(some 7), .move (.tmp 14), none⟩])
 (.draw 0 [
 ⟨0, ⟨(some 15), .move (.tmp 5), none⟩, [], 0⟩,
 ⟨1, ⟨(some 16), .off (.tmp 2) 0, none⟩, [], 0⟩,
 ⟨2, ⟨(some 17), .load 1 false (.tmp 16), none⟩, [1], 0⟩,
 ⟨3, ⟨(some 18), .load 10 true (.tmp 2), none⟩, [], 0⟩,
 ⟨4, ⟨(some 19), .move (.tmp 7), none⟩, [], 0⟩,
 ⟨5, ⟨(some 20), .call 32 [(.tmp 18), (.tmp 19)], none⟩, [3, 4], 0⟩,
 ⟨6, ⟨(some 21), .idxSl (.tmp 17) (.tmp 20) 3, none⟩, [2, 1, 5, 3, 4], 0⟩,
 ⟨7, ⟨(some 22), .off (.tmp 21) 2, none⟩, [6, 2, 1, 5, 3, 4], 0⟩,
 ⟨8, ⟨(some 23), .load 1 false (.tmp 22), none⟩, [7, 6, 2, 1, 5, 3, 4], 0⟩,
 ⟨9, ⟨(some 24), .bin .add (.tmp 15) (.tmp 23), none⟩, [0, 8, 7, 6, 2, 1, 5, 3, 4], 0⟩,
 ⟨10, ⟨(some 5), .move (.tmp 24), none⟩, [9, 0, 8, 7, 6, 2, 1, 5, 3, 4], 0⟩])))
 (.ops [
 ⟨(some 25), .bin .add (.tmp 11) (.const (.int .i64 1)), none⟩,
 ⟨(some 11), .move (.tmp 25), none⟩])))))))
 (.seq
 (.ops [
 ⟨(some 26), .move (.tmp 5), none⟩,
 ⟨(some 4), .move (.tmp 26), none⟩])
 .ret))))⟩
theorem t55_ok : goodFn Try.prog 55 = true ∧ cfn Try.prog 55 = t55 := ⟨by kernel_rfl, by kernel_rfl⟩
 /-- matchguard/extract.header$1 -/
def t56 : NFn := ⟨34, [(.cell 4 2 true)],
 (.seq
 (.ops [
 ⟨(some 4), .alloc [(.int .u64 0), (.int .u64 0)], none⟩])
 (.seq
 (.ops [
 ⟨(some 5), .alloc [(.int .u64 0), (.int .u64 0)], none⟩])
 (.seq
 (.seq
 (.ops [
 ⟨(some 7), .move (.tmp 0), none⟩,
 ⟨(some 8), .move (.const (.int .i64 0)), none⟩])
 (.block 0
 (.loop
 (.seq
 (.ops [
 ⟨(some 9), .bin .lss (.tmp 8) (.tmp 7), none⟩])
 (.seq
 (.cond (.tmp 9)
 .skip
 (.exit 0))
 (.seq
 (.block 1
 (.seq
 (.draw 0 [
 ⟨0, ⟨(some 10), .load 1 false (.tmp 1), none⟩, [], 0⟩,
 ⟨1, ⟨(some 11), .nilCheck (.tmp 10), none⟩, [0], 0⟩,
 ⟨2, ⟨(some 12), .off (.tmp 11) 2, none⟩, [1, 0], 0⟩,
 ⟨3, ⟨(some 13), .load 1 false (.tmp 12), none⟩, [2, 1, 0], 0⟩,
 ⟨4, ⟨(some 14), .load 1 false (.tmp 2), none⟩, [], 0⟩,
 ⟨5, ⟨(some 15), .bin .quo (.tmp 14) (.const (.int .i64 8)), none⟩, [4], 0⟩,
 ⟨6, ⟨(some 16), .idxSl (.tmp 13) (.tmp 15) 1, none⟩, [3, 2, 1, 0, 5, 4], 0⟩,
 ⟨7, ⟨(some 17), .load 1 false (.tmp 16), none⟩, [6, 3, 2, 1, 0, 5, 4], 0⟩,
 ⟨8, ⟨(some 18), .load 1 false (.tmp 2), none⟩, [], 0⟩,
 ⟨9, ⟨(some 19), .bin .rem (.tmp 18) (.const (.int .i64 8)), none⟩, [8], 0⟩,
 ⟨10, ⟨(some 20), .bin .sub (.const (.int .i64 7)) (.tmp 19), none⟩, [9, 8], 0⟩,
 ⟨11, ⟨(some 21), .conv .u64 (.tmp 20), none⟩, [10, 9, 8], 0⟩,
 ⟨12, ⟨(some 22), .bin .shr (.tmp 17) (.tmp 21), none⟩, [7, 6, 3, 2, 1, 0, 5, 4, 11, 10, 9, 8], 0⟩,
 ⟨13, ⟨(some 23), .bin .and (.tmp 22) (.const (.int .u8 1)), none⟩, [12, 7, 6, 3, 2, 1, 0, 5, 4, 11, 10, 9, 8], 0⟩,
 ⟨14, ⟨(some 6), .move (.tmp 23), none⟩, [13, 12, 7, 6, 3, 2, 1, 0, 5, 4, 11, 10, 9, 8], 0⟩])
 (.seq
 (.ops [
 ⟨(some 24), .load 2 true (.tmp 5), none⟩,
 ⟨(some 25), .call 58 [(.tmp 24), (.const (.int .i64 1))], none⟩,
 ⟨(some 26), .move (.tmp 6), none⟩,
 ⟨(some 27), .conv .u64 (.tmp 26), none⟩,
 ⟨(some 28), .call 33 [(.tmp 27)], none⟩,
 ⟨(some 29), .call 57 [(.tmp 25), (.tmp 28)], none⟩,
 ⟨none, .store 2 (.tmp 5) (.tmp 29), none⟩])
 (.ops [
 ⟨(some 30), .load 1 false (.tmp 2), none⟩,
 ⟨(some 31), .bin .add (.tmp 30) (.const (.int .i64 1)), none⟩,
 ⟨none, .store 1 (.tmp 2) (.tmp 31), none⟩]))))
 (.ops [
 ⟨(some 32), .bin .add (.tmp 8) (.const (.int .i64 1)), none⟩,
 ⟨(some 8), .move (.tmp 32), none⟩])))))))
 (.seq
 (.ops [
 ⟨(some 33), .load 2 true (.tmp 5), none⟩,
 ⟨none, .store 2 (.tmp 4) (.tmp 33), none⟩])
 .ret))))⟩
theorem t56_ok : goodFn Try.prog 56 = true ∧ cfn Try.prog 56 = t56 := ⟨by kernel_rfl, by kernel_rfl⟩
 /-- matchguard/value.Or -/
def t57 : NFn := ⟨16, [(.cell 4 2 true)],
 (.seq
 (.ops [
 ⟨(some 2), .box (.tmp 0), none⟩,
 ⟨(some 3), .box (.tmp 1), none⟩,
 ⟨(some 4), .alloc [(.int .u64 0), (.int .u64 0)], none⟩])
 (.seq
 (.ops [
 ⟨(some 5), .off (.tmp 2) 0, none⟩,
 ⟨(some 6), .load 1 false (.tmp 5), none⟩,
 ⟨(some 7), .off (.tmp 3) 0, none⟩,
 ⟨(some 8), .load 1 false (.tmp 7), none⟩,
 ⟨(some 9), .bin .or (.tmp 6) (.tmp 8), none⟩,
 ⟨(some 10), .off (.tmp 2) 1, none⟩,
 ⟨(some 11), .load 1 false (.tmp 10), none⟩,
 ⟨(some 12), .off (.tmp 3) 1, none⟩,
 ⟨(some 13), .load 1 false (.tmp 12), none⟩,
 ⟨(some 14), .bin .or (.tmp 11) (.tmp 13), none⟩,
 ⟨(some 15), .build [(.int .u64 0), (.int .u64 0)] [(0, 1, (.tmp 9)), (1, 1, (.tmp 14))], none⟩,
 ⟨none, .store 2 (.tmp 4) (.tmp 15), none⟩])
 .ret))⟩
theorem t57_ok : goodFn Try.prog 57 = true ∧ cfn Try.prog 57 = t57 := ⟨by kernel_rfl, by kernel_rfl⟩
 /-- matchguard/value.Left -/
def t58 : NFn := ⟨37, [(.cell 4 2 true)],
 (.seq
 (.ops [
 ⟨(some 2), .box (.tmp 0), none⟩,
 ⟨(some 4), .alloc [(.int .u64 0), (.int .u64 0)], none⟩])
 (.seq
 (.block 0
 (.seq
 (.ops [
 ⟨(some 6), .move (.tmp 1), none⟩,
 ⟨(some 7), .bin .leq (.tmp 6) (.const (.int .i64 0)), none⟩,
 ⟨(some 5), .move (.tmp 7), none⟩])
 (.cond (.tmp 5)
 (.seq
 (.ops [
 ⟨(some 8), .load 2 true (.tmp 2), none⟩,
 ⟨none, .store 2 (.tmp 4) (.tmp 8), none⟩])
 .ret)
 (.seq
 (.ops [
 ⟨(some 10), .move (.tmp 1), none⟩,
 ⟨(some 11), .bin .geq (.tmp 10) (.const (.int .i64 64)), none⟩,
 ⟨(some 9), .move (.tmp 11), none⟩])
 (.cond (.tmp 9)
 (.seq
 (.ops [
 ⟨(some 12), .off (.tmp 2) 1, none⟩,
 ⟨(some 13), .load 1 false (.tmp 12), none⟩,
 ⟨(some 14), .move (.tmp 1), none⟩,
 ⟨(some 15), .bin .sub (.tmp 14) (.const (.int .i64 64)), none⟩,
 ⟨(some 16), .conv .u64 (.tmp 15), none⟩,
 ⟨(some 17), .bin .shl (.tmp 13) (.tmp 16), none⟩,
 ⟨(some 18), .build [(.int .u64 0), (.int .u64 0)] [(0, 1, (.tmp 17))], none⟩,
 ⟨none, .store 2 (.tmp 4) (.tmp 18), none⟩])
 .ret)
 .skip)))))
 (.seq
 (.ops [
 ⟨(some 19), .off (.tmp 2) 0, none⟩,
 ⟨(some 20), .load 1 false (.tmp 19), none⟩,
 ⟨(some 21), .move (.tmp 1), none⟩,
 ⟨(some 22), .conv .u64 (.tmp 21), none⟩,
 ⟨(some 23), .bin .shl (.tmp 20) (.tmp 22), none⟩,
 ⟨(some 24), .off (.tmp 2) 1, none⟩,
 ⟨(some 25), .load 1 false (.tmp 24), none⟩,
 ⟨(some 26), .move (.tmp 1), none⟩,
 ⟨(some 27), .bin .sub (.const (.int .i64 64)) (.tmp 26), none⟩,
 ⟨(some 28), .conv .u64 (.tmp 27), none⟩,
 ⟨(some 29), .bin .shr (.tmp 25) (.tmp 28), none⟩,
 ⟨(some 30), .bin .or (.tmp 23) (.tmp 29), none⟩,
 ⟨(some 31), .off (.tmp 2) 1, none⟩,
 ⟨(some 32), .load 1 false (.tmp 31), none⟩,
 ⟨(some 33), .move (.tmp 1), none⟩,
 ⟨(some 34), .conv .u64 (.tmp 33), none⟩,
 ⟨(some 35), .bin .shl (.tmp 32) (.tmp 34), none⟩,
 ⟨(some 36), .build [(.int .u64 0), (.int .u64 0)] [(0, 1, (.tmp 30)), (1, 1, (.tmp 35))], none⟩,
 ⟨none, .store 2 (.tmp 4) (.tmp 36), none⟩])
 .ret)))⟩
theorem t58_ok : goodFn Try.prog 58 = true ∧ cfn Try.prog 58 = t58 := ⟨by kernel_rfl, by kernel_rfl⟩
 /-- slices.IndexFunc[[]matchguard/api.Header,matchguard/api.Header] -/
def t59 : NFn := ⟨19, [(.tmp 4)],
 (.seq
 (.ops [
 ⟨(some 4), .move (.const (.int .i64 0)), none⟩])
 (.seq
 (.seq
 (.ops [
 ⟨(some 6), .move (.tmp 0), none⟩,
 ⟨(some 7), .lenSl (.tmp 6), none⟩,
 ⟨(some 8), .move (.const (.int .i64 0)), none⟩])
 (.block 0
 (.loop
 (.seq
 (.ops [
 ⟨(some 9), .bin .lss (.tmp 8) (.tmp 7), none⟩])
 (.seq
 (.cond (.tmp 9)
 .skip
 (.exit 0))
 (.seq
 (.block 1
 (.seq
 (.ops [
 ⟨(some 10), .move (.tmp 8), none⟩,
 ⟨(some 5), .move (.tmp 10), none⟩])
 (.seq
 (.ops [
 ⟨(some 11), .move (.tmp 1), none⟩,
 ⟨(some 12), .move (.tmp 0), none⟩,
 ⟨(some 13), .move (.tmp 5), none⟩,
 ⟨(some 14), .idxSl (.tmp 12) (.tmp 13) 3, none⟩,
 ⟨(some 15), .load 3 true (.tmp 14), none⟩,
 ⟨(some 16), .callv (.tmp 11) [(.tmp 15)], none⟩])
 (.cond (.tmp 16)
 (.seq
 (.ops [
 ⟨(some 17), .move (.tmp 5), none⟩,
 ⟨(some 4), .move (.tmp 17), none⟩])
 .ret)
 .skip))))
 (.ops [
 ⟨(some 18), .bin .add (.tmp 8) (.const (.int .i64 1)), none⟩,
 ⟨(some 8), .move (.tmp 18), none⟩])))))))
 (.seq
 (.ops [
 ⟨(some 4), .move (.const (.int .i64 (-1))), none⟩])
 .ret)))⟩
theorem t59_ok : goodFn Try.prog 59 = true ∧ cfn Try.prog 59 = t59 := ⟨by kernel_rfl, by kernel_rfl⟩
 /-- matchguard/check.HeaderOf$1 -/
def t60 : NFn := ⟨8, [(.tmp 3)],
 (.seq
 (.ops [
 ⟨(some 2), .box (.tmp 0), none⟩,
 ⟨(some 3), .move (.const (.bool false)), none⟩])
 (.seq
 (.ops [
 ⟨(some 4), .off (.tmp 2) 0, none⟩,
 ⟨(some 5), .load 1 false (.tmp 4), none⟩,
 ⟨(some 6), .load 1 false (.tmp 1), none⟩,
 ⟨(some 7), .bin .eql (.tmp 5) (.tmp 6), none⟩,
 ⟨(some 3), .move (.tmp 7), none⟩])
 .ret))⟩
theorem t60_ok : goodFn Try.prog 60 = true ∧ cfn Try.prog 60 = t60 := ⟨by kernel_rfl, by kernel_rfl⟩
 /-- matchguard/value.And -/
def t61 : NFn := ⟨16, [(.cell 4 2 true)],
 (.seq
 (.ops [
 ⟨(some 2), .box (.tmp 0), none⟩,
 ⟨(some 3), .box (.tmp 1), none⟩,
 ⟨(some 4), .alloc [(.int .u64 0), (.int .u64 0)], none⟩])
 (.seq
 (.ops [
 ⟨(some 5), .off (.tmp 2) 0, none⟩,
 ⟨(some 6), .load 1 false (.tmp 5), none⟩,
 ⟨(some 7), .off (.tmp 3) 0, none⟩,
 ⟨(some 8), .load 1 false (.tmp 7), none⟩,
 ⟨(some 9), .bin .and (.tmp 6) (.tmp 8), none⟩,
 ⟨(some 10), .off (.tmp 2) 1, none⟩,
 ⟨(some 11), .load 1 false (.tmp 10), none⟩,
 ⟨(some 12), .off (.tmp 3) 1, none⟩,
 ⟨(some 13), .load 1 false (.tmp 12), none⟩,
 ⟨(some 14), .bin .and (.tmp 11) (.tmp 13), none⟩,
 ⟨(some 15), .build [(.int .u64 0), (.int .u64 0)] [(0, 1, (.tmp 9)), (1, 1, (.tmp 14))], none⟩,
 ⟨none, .store 2 (.tmp 4) (.tmp 15), none⟩])
 .ret))⟩
theorem t61_ok : goodFn Try.prog 61 = true ∧ cfn Try.prog 61 = t61 := ⟨by kernel_rfl, by kernel_rfl⟩
 /-- slices.IndexFunc[[]matchguard/api.State,matchguard/api.State] -/
def t62 : NFn := ⟨19, [(.tmp 4)],
 (.seq
 (.ops [
 ⟨(some 4), .move (.const (.int .i64 0)), none⟩])
 (.seq
 (.seq
 (.ops [
 ⟨(some 6), .move (.tmp 0), none⟩,
 ⟨(some 7), .lenSl (.tmp 6), none⟩,
 ⟨(some 8), .move (.const (.int .i64 0)), none⟩])
 (.block 0
 (.loop
 (.seq
 (.ops [
 ⟨(some 9), .bin .lss (.tmp 8) (.tmp 7), none⟩])
 (.seq
 (.cond (.tmp 9)
 .skip
 (.exit 0))
 (.seq
 (.block 1
 (.seq
 (.ops [
 ⟨(some 10), .move (.tmp 8), none⟩,
 ⟨(some 5), .move (.tmp 10), none⟩])
 (.seq
 (.ops [
 ⟨(some 11), .move (.tmp 1), none⟩,
 ⟨(some 12), .move (.tmp 0), none⟩,
 ⟨(some 13), .move (.tmp 5), none⟩,
 ⟨(some 14), .idxSl (.tmp 12) (.tmp 13) 5, none⟩,
 ⟨(some 15), .load 5 true (.tmp 14), none⟩,
 ⟨(some 16), .callv (.tmp 11) [(.tmp 15)], none⟩])
 (.cond (.tmp 16)
 (.seq
 (.ops [
 ⟨(some 17), .move (.tmp 5), none⟩,
 ⟨(some 4), .move (.tmp 17), none⟩])
 .ret)
 .skip))))
 (.ops [
 ⟨(some 18), .bin .add (.tmp 8) (.const (.int .i64 1)), none⟩,
 ⟨(some 8), .move (.tmp 18), none⟩])))))))
 (.seq
 (.ops [
 ⟨(some 4), .move (.const (.int .i64 (-1))), none⟩])
 .ret)))⟩
theorem t62_ok : goodFn Try.prog 62 = true ∧ cfn Try.prog 62 = t62 := ⟨by kernel_rfl, by kernel_rfl⟩
 /-- matchguard/check.StateOf$1 -/
def t63 : NFn := ⟨8, [(.tmp 3)],
 (.seq
 (.ops [
 ⟨(some 2), .box (.tmp 0), none⟩,
 ⟨(some 3), .move (.const (.bool false)), none⟩])
 (.seq
 (.ops [
 ⟨(some 4), .off (.tmp 2) 0, none⟩,
 ⟨(some 5), .load 1 false (.tmp 4), none⟩,
 ⟨(some 6), .load 1 false (.tmp 1), none⟩,
 ⟨(some 7), .bin .eql (.tmp 5) (.tmp 6), none⟩,
 ⟨(some 3), .move (.tmp 7), none⟩])
 .ret))⟩
theorem t63_ok : goodFn Try.prog 63 = true ∧ cfn Try.prog 63 = t63 := ⟨by kernel_rfl, by kernel_rfl⟩
 /-- matchguard/matchguardref28.Bits -/
def t64 : NFn := ⟨22, [(.tmp 4)],
 (.seq
 (.ops [
 ⟨(some 2), .box (.tmp 0), none⟩,
 ⟨(some 3), .box (.tmp 1), none⟩,
 ⟨(some 4), .move (.const (.int .i64 0)), none⟩])
 (.seq
 (.ops [
 ⟨(some 5), .move (.const (.int .i64 0)), none⟩])
 (.seq
 (.seq
 (.ops [
 ⟨(some 8), .off (.tmp 3) 2, none⟩,
 ⟨(some 9), .load 1 false (.tmp 8), none⟩,
 ⟨(some 10), .lenSl (.tmp 9), none⟩,
 ⟨(some 11), .move (.const (.int .i64 0)), none⟩])
 (.block 0
 (.loop
 (.seq
 (.ops [
 ⟨(some 12), .bin .lss (.tmp 11) (.tmp 10), none⟩])
 (.seq
 (.cond (.tmp 12)
 .skip
 (.exit 0))
 (.seq
 (.block 1
 (.seq
 (.ops [
 ⟨(some 13), .idxSl (.tmp 9) (.tmp 11) 1, none⟩,
 ⟨(some 14), .load 1 false (.tmp 13), none⟩,
 ⟨(some 7), .move (.tmp 14), none⟩])
 (.ops [
 ⟨(some 15), .move (.tmp 5), none⟩,
 ⟨(some 16), .load 10 true (.tmp 2), none⟩,
 ⟨(some 17), .move (.tmp 7), none⟩,
 ⟨(some 18), .call 65 [(.tmp 16), (.tmp 17)], none⟩,
 ⟨(some 19), .bin .add (.tmp 15) (.tmp 18), none⟩,
 ⟨(some 5), .move (.tmp 19), none⟩])))
 (.ops [
 ⟨(some 20), .bin .add (.tmp 11) (.const (.int .i64 1)), none⟩,
 ⟨(some 11), .move (.tmp 20), none⟩])))))))
 (.seq
 (.ops [
 ⟨(some 21), .move (.tmp 5), none⟩,
 ⟨(some 4), .move (.tmp 21), none⟩])
 .ret))))⟩
theorem t64_ok : goodFn Try.prog 64 = true ∧ cfn Try.prog 64 = t64 := ⟨by kernel_rfl, by kernel_rfl⟩
 /-- matchguard/matchguardref04.Bits -/
def t65 : NFn := ⟨13, [(.tmp 4)],
 (.seq
 (.ops [
 ⟨(some 2), .box (.tmp 0), none⟩,
 ⟨(some 4), .move (.const (.int .i64 0)), none⟩])
 (.seq
 (.draw 0 [
 ⟨0, ⟨(some 5), .off (.tmp 2) 0, none⟩, [], 0⟩,
 ⟨1, ⟨(some 6), .load 1 false (.tmp 5), none⟩, [0], 0⟩,
 ⟨2, ⟨(some 7), .load 10 true (.tmp 2), none⟩, [], 0⟩,
 ⟨3, ⟨(some 8), .move (.tmp 1), none⟩, [], 0⟩,
 ⟨4, ⟨(some 9), .call 23 [(.tmp 7), (.tmp 8)], none⟩, [2, 3], 0⟩,
 ⟨5, ⟨(some 10), .idxSl (.tmp 6) (.tmp 9) 3, none⟩, [1, 0, 4, 2, 3], 0⟩,
 ⟨6, ⟨(some 11), .off (.tmp 10) 2, none⟩, [5, 1, 0, 4, 2, 3], 0⟩,
 ⟨7, ⟨(some 12), .load 1 false (.tmp 11), none⟩, [6, 5, 1, 0, 4, 2, 3], 0⟩,
 ⟨8, ⟨(some 4), .move (.tmp 12), none⟩, [7, 6, 5, 1, 0, 4, 2, 3], 0⟩])
 .ret))⟩
theorem t65_ok : goodFn Try.prog 65 = true ∧ cfn Try.prog 65 = t65 := ⟨by kernel_rfl, by kernel_rfl⟩
 /-- matchguard/matchguardref01.And -/
def t66 : NFn := ⟨28, [(.cell 4 2 true)],
 (.seq
 (.ops [
 ⟨(some 2), .box (.tmp 0), none⟩,
 ⟨(some 3), .box (.tmp 1), none⟩,
 ⟨(some 4), .alloc [(.int .u64 0), (.int .u64 0)], none⟩])
 (.seq
 (.draw 2 [
 ⟨0, ⟨(some 8), .load 2 true (.tmp 2), none⟩, [], 0⟩,
 ⟨1, ⟨(some 9), .call 43 [(.tmp 8)], none⟩, [0], 0⟩,
 ⟨2, ⟨(some 10), .load 2 true (.tmp 3), none⟩, [], 0⟩,
 ⟨3, ⟨(some 11), .call 43 [(.tmp 10)], none⟩, [2, 1, 0], 0⟩,
 ⟨4, ⟨(some 5), .alloc (fill 128 (.bool false)), none⟩, [], 0⟩,
 ⟨5, ⟨(some 6), .alloc (fill 128 (.bool false)), none⟩, [], 1⟩,
 ⟨6, ⟨none, .store 128 (.tmp 5) (.tmp 9), none⟩, [4, 1, 0, 3, 2, 5], 2⟩,
 ⟨7, ⟨none, .store 128 (.tmp 6) (.tmp 11), none⟩, [5, 3, 2, 1, 0, 6, 4], 2⟩])
 (.seq
 (.seq
 (.ops [
 ⟨(some 12), .move (.const (.int .i64 0)), none⟩])
 (.block 0
 (.loop
 (.seq
 (.ops [
 ⟨(some 13), .bin .lss (.tmp 12) (.const (.int .i64 128)), none⟩])
 (.seq
 (.cond (.tmp 13)
 .skip
 (.exit 0))
 (.seq
 (.block 1
 (.seq
 (.ops [
 ⟨(some 14), .move (.tmp 12), none⟩,
 ⟨(some 7), .move (.tmp 14), none⟩])
 (.ops [
 ⟨(some 15), .move (.tmp 7), none⟩,
 ⟨(some 16), .move (.tmp 7), none⟩,
 ⟨(some 17), .idxArr (.tmp 5) (.tmp 16) 128 1, none⟩,
 ⟨(some 18), .load 1 false (.tmp 17), none⟩,
 ⟨(some 19), .move (.tmp 18), none⟩,
 ⟨(some 20), .move (.tmp 7), (some (19, true))⟩,
 ⟨(some 21), .idxArr (.tmp 6) (.tmp 20) 128 1, (some (19, true))⟩,
 ⟨(some 22), .load 1 false (.tmp 21), (some (19, true))⟩,
 ⟨(some 23), .pick (.tmp 19) (.tmp 22) (.const (.bool false)), none⟩,
 ⟨(some 24), .idxArr (.tmp 5) (.tmp 15) 128 1, none⟩,
 ⟨none, .store 1 (.tmp 24) (.tmp 23), none⟩])))
 (.ops [
 ⟨(some 25), .bin .add (.tmp 12) (.const (.int .i64 1)), none⟩,
 ⟨(some 12), .move (.tmp 25), none⟩])))))))
 (.seq
 (.ops [
 ⟨(some 26), .load 128 true (.tmp 5), none⟩,
 ⟨(some 27), .call 44 [(.tmp 26)], none⟩,
 ⟨none, .store 2 (.tmp 4) (.tmp 27), none⟩])
 .ret))))⟩
theorem t66_ok : goodFn Try.prog 66 = true ∧ cfn Try.prog 66 = t66 := ⟨by kernel_rfl, by kernel_rfl⟩
 def tab : List (Nat × NFn) := [(3, t3), (7, t7), (8, t8), (9, t9), (10, t10), (11, t11), (12, t12), (13, t13), (14, t14), (15, t15), (16, t16), (23, t23), (24, t24), (25, t25), (26, t26), (27, t27), (28, t28), (29, t29), (30, t30), (31, t31), (32, t32), (33, t33), (34, t34), (35, t35), (36, t36), (37, t37), (38, t38), (39, t39), (40, t40), (41, t41), (42, t42), (43, t43), (44, t44), (47, t47), (48, t48), (49, t49), (50, t50), (51, t51), (52, t52), (53, t53), (54, t54), (55, t55), (56, t56), (57, t57), (58, t58), (59, t59), (60, t60), (61, t61), (62, t62), (63, t63), (64, t64), (65, t65), (66, t66)]
theorem tab_ok : ∀ p ∈ tab, goodFn Try.prog p.1 = true ∧ cfn Try.prog p.1 = p.2 := by
 intro p hp
 simp only [tab, List.mem_cons, List.not_mem_nil, or_false] at hp
 rcases hp with rfl | rfl | rfl | rfl | rfl | rfl | rfl | rfl | rfl | rfl | rfl | rfl | rfl | rfl | rfl | rfl | rfl | rfl | rfl | rfl | rfl | rfl | rfl | rfl | rfl | rfl | rfl | rfl | rfl | rfl | rfl | rfl | rfl | rfl | rfl | rfl | rfl | rfl | rfl | rfl | rfl | rfl | rfl | rfl | rfl | rfl | rfl | rfl | rfl | rfl | rfl | rfl | rfl
 · exact t3_ok
 · exact t7_ok
 · exact t8_ok
 · exact t9_ok
 · exact t10_ok
 · exact t11_ok
 · exact t12_ok
 · exact t13_ok
 · exact t14_ok
 · exact t15_ok
 · exact t16_ok
 · exact t23_ok
 · exact t24_ok
 · exact t25_ok
 · exact t26_ok
 · exact t27_ok
 · exact t28_ok
 · exact t29_ok
 · exact t30_ok
 · exact t31_ok
 · exact t32_ok
 · exact t33_ok
 · exact t34_ok
 · exact t35_ok
 · exact t36_ok
 · exact t37_ok
 · exact t38_ok
 · exact t39_ok
 · exact t40_ok
 · exact t41_ok
 · exact t42_ok
 · exact t43_ok
 · exact t44_ok
 · exact t47_ok
 · exact t48_ok
 · exact t49_ok
 · exact t50_ok
 · exact t51_ok
 · exact t52_ok
 · exact t53_ok
 · exact t54_ok
 · exact t55_ok
 · exact t56_ok
 · exact t57_ok
 · exact t58_ok
 · exact t59_ok
 · exact t60_ok
 · exact t61_ok
 · exact t62_ok
 · exact t63_ok
 · exact t64_ok
 · exact t65_ok
 · exact t66_ok
end Go.Proofs
