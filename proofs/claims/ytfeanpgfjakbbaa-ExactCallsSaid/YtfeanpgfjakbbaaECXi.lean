/- Exact: one call of ExactCalls as a part of its own. -/
import Derived.Test.YtfeanpgfjakbbaaECXh
namespace Go.Proofs
open Go.Ns
def d4 : NCode := (.seq
 (.ops [
 ⟨(some 27), .off (.tmp 6) 0, none⟩,
 ⟨(some 28), .load 1 false (.tmp 27), none⟩,
 ⟨(some 29), .bin .rem (.tmp 28) (.const (.int .i64 4)), none⟩])
 (.block 2
 (.seq
 (.seq
 (.ops [
 ⟨(some 51), .bin .eql (.tmp 29) (.const (.int .i64 0)), none⟩,
 ⟨(some 50), .move (.tmp 51), none⟩])
 (.cond (.tmp 50)
 .skip
 (.ops [
 ⟨(some 52), .bin .eql (.tmp 29) (.const (.int .i64 1)), none⟩,
 ⟨(some 50), .move (.tmp 52), none⟩])))
 (.cond (.tmp 50)
 (.seq
 (.draw 0 [
 ⟨0, ⟨(some 53), .move (.tmp 3), none⟩, [], 0⟩,
 ⟨1, ⟨(some 54), .load 8 true (.tmp 7), none⟩, [], 0⟩,
 ⟨2, ⟨(some 55), .off (.tmp 6) 10, none⟩, [], 0⟩,
 ⟨3, ⟨(some 56), .load 1 false (.tmp 55), none⟩, [2], 0⟩,
 ⟨4, ⟨(some 57), .call 7 [(.tmp 53), (.tmp 54), (.tmp 56)], none⟩, [0, 1, 3, 2], 0⟩,
 ⟨5, ⟨(some 58), .move (.tmp 4), none⟩, [], 0⟩,
 ⟨6, ⟨(some 59), .load 8 true (.tmp 7), none⟩, [], 0⟩,
 ⟨7, ⟨(some 60), .off (.tmp 6) 10, none⟩, [], 0⟩,
 ⟨8, ⟨(some 61), .load 1 false (.tmp 60), none⟩, [7], 0⟩,
 ⟨9, ⟨(some 62), .call 12 [(.tmp 58), (.tmp 59), (.tmp 61)], none⟩, [5, 6, 8, 7, 4, 0, 1, 3, 2], 0⟩,
 ⟨10, ⟨(some 63), .eq true false [.bool] (.tmp 57) (.tmp 62), none⟩, [4, 0, 1, 3, 2, 9, 5, 6, 8, 7], 0⟩])
 (.cond (.tmp 63)
 (.seq
 (.ops [
 ⟨(some 2), .move (.const (.bool false)), none⟩])
 .ret)
 .skip))
 (.seq
 (.ops [
 ⟨(some 65), .bin .eql (.tmp 29) (.const (.int .i64 2)), none⟩,
 ⟨(some 64), .move (.tmp 65), none⟩])
 (.cond (.tmp 64)
 (.seq
 (.draw 0 [
 ⟨0, ⟨(some 66), .move (.tmp 3), none⟩, [], 0⟩,
 ⟨1, ⟨(some 67), .load 8 true (.tmp 7), none⟩, [], 0⟩,
 ⟨2, ⟨(some 68), .call 9 [(.tmp 66), (.tmp 67)], none⟩, [0, 1], 0⟩,
 ⟨3, ⟨(some 69), .move (.tmp 4), none⟩, [], 0⟩,
 ⟨4, ⟨(some 70), .load 8 true (.tmp 7), none⟩, [], 0⟩,
 ⟨5, ⟨(some 71), .call 13 [(.tmp 69), (.tmp 70)], none⟩, [3, 4, 2, 0, 1], 0⟩,
 ⟨6, ⟨(some 72), .eq true false [.bool] (.tmp 68) (.tmp 71), none⟩, [2, 0, 1, 5, 3, 4], 0⟩])
 (.cond (.tmp 72)
 (.seq
 (.ops [
 ⟨(some 2), .move (.const (.bool false)), none⟩])
 .ret)
 .skip))
 (.seq
 (.ops [
 ⟨(some 31), .move (.tmp 3), none⟩,
 ⟨(some 32), .load 8 true (.tmp 7), none⟩,
 ⟨(some 33), .call 14 [(.tmp 31), (.tmp 32)], none⟩,
 ⟨(some 30), .move (.tmp 33), none⟩,
 ⟨(some 34), .extract (.tmp 30) 0, none⟩,
 ⟨(some 35), .extract (.tmp 30) 1, none⟩,
 ⟨(some 8), .move (.tmp 34), none⟩,
 ⟨(some 9), .move (.tmp 35), none⟩])
 (.seq
 (.ops [
 ⟨(some 37), .move (.tmp 4), none⟩,
 ⟨(some 38), .load 8 true (.tmp 7), none⟩,
 ⟨(some 39), .call 15 [(.tmp 37), (.tmp 38)], none⟩,
 ⟨(some 36), .move (.tmp 39), none⟩,
 ⟨(some 40), .extract (.tmp 36) 0, none⟩,
 ⟨(some 41), .extract (.tmp 36) 1, none⟩,
 ⟨(some 10), .move (.tmp 40), none⟩,
 ⟨(some 11), .move (.tmp 41), none⟩])
 (.seq
 (.ops [
 ⟨(some 42), .move (.tmp 8), none⟩,
 ⟨(some 43), .move (.tmp 10), none⟩,
 ⟨(some 44), .bin .neq (.tmp 42) (.tmp 43), none⟩,
 ⟨(some 45), .move (.tmp 44), none⟩,
 ⟨(some 46), .move (.tmp 9), (some (45, false))⟩,
 ⟨(some 47), .move (.tmp 11), (some (45, false))⟩,
 ⟨(some 48), .eq true false [.bool] (.tmp 46) (.tmp 47), (some (45, false))⟩,
 ⟨(some 49), .pick (.tmp 45) (.const (.bool true)) (.tmp 48), none⟩])
 (.cond (.tmp 49)
 (.seq
 (.ops [
 ⟨(some 2), .move (.const (.bool false)), none⟩])
 .ret)
 .skip))))))))))
theorem d4_eq : d4 = (.seq
 (.ops [
 ⟨(some 27), .off (.tmp 6) 0, none⟩,
 ⟨(some 28), .load 1 false (.tmp 27), none⟩,
 ⟨(some 29), .bin .rem (.tmp 28) (.const (.int .i64 4)), none⟩])
 (.block 2
 (.seq
 (.seq
 (.ops [
 ⟨(some 51), .bin .eql (.tmp 29) (.const (.int .i64 0)), none⟩,
 ⟨(some 50), .move (.tmp 51), none⟩])
 (.cond (.tmp 50)
 .skip
 (.ops [
 ⟨(some 52), .bin .eql (.tmp 29) (.const (.int .i64 1)), none⟩,
 ⟨(some 50), .move (.tmp 52), none⟩])))
 (.cond (.tmp 50)
 (.seq
 (.draw 0 [
 ⟨0, ⟨(some 53), .move (.tmp 3), none⟩, [], 0⟩,
 ⟨1, ⟨(some 54), .load 8 true (.tmp 7), none⟩, [], 0⟩,
 ⟨2, ⟨(some 55), .off (.tmp 6) 10, none⟩, [], 0⟩,
 ⟨3, ⟨(some 56), .load 1 false (.tmp 55), none⟩, [2], 0⟩,
 ⟨4, ⟨(some 57), .call 7 [(.tmp 53), (.tmp 54), (.tmp 56)], none⟩, [0, 1, 3, 2], 0⟩,
 ⟨5, ⟨(some 58), .move (.tmp 4), none⟩, [], 0⟩,
 ⟨6, ⟨(some 59), .load 8 true (.tmp 7), none⟩, [], 0⟩,
 ⟨7, ⟨(some 60), .off (.tmp 6) 10, none⟩, [], 0⟩,
 ⟨8, ⟨(some 61), .load 1 false (.tmp 60), none⟩, [7], 0⟩,
 ⟨9, ⟨(some 62), .call 12 [(.tmp 58), (.tmp 59), (.tmp 61)], none⟩, [5, 6, 8, 7, 4, 0, 1, 3, 2], 0⟩,
 ⟨10, ⟨(some 63), .eq true false [.bool] (.tmp 57) (.tmp 62), none⟩, [4, 0, 1, 3, 2, 9, 5, 6, 8, 7], 0⟩])
 (.cond (.tmp 63)
 (.seq
 (.ops [
 ⟨(some 2), .move (.const (.bool false)), none⟩])
 .ret)
 .skip))
 (.seq
 (.ops [
 ⟨(some 65), .bin .eql (.tmp 29) (.const (.int .i64 2)), none⟩,
 ⟨(some 64), .move (.tmp 65), none⟩])
 (.cond (.tmp 64)
 (.seq
 (.draw 0 [
 ⟨0, ⟨(some 66), .move (.tmp 3), none⟩, [], 0⟩,
 ⟨1, ⟨(some 67), .load 8 true (.tmp 7), none⟩, [], 0⟩,
 ⟨2, ⟨(some 68), .call 9 [(.tmp 66), (.tmp 67)], none⟩, [0, 1], 0⟩,
 ⟨3, ⟨(some 69), .move (.tmp 4), none⟩, [], 0⟩,
 ⟨4, ⟨(some 70), .load 8 true (.tmp 7), none⟩, [], 0⟩,
 ⟨5, ⟨(some 71), .call 13 [(.tmp 69), (.tmp 70)], none⟩, [3, 4, 2, 0, 1], 0⟩,
 ⟨6, ⟨(some 72), .eq true false [.bool] (.tmp 68) (.tmp 71), none⟩, [2, 0, 1, 5, 3, 4], 0⟩])
 (.cond (.tmp 72)
 (.seq
 (.ops [
 ⟨(some 2), .move (.const (.bool false)), none⟩])
 .ret)
 .skip))
 (.seq
 (.ops [
 ⟨(some 31), .move (.tmp 3), none⟩,
 ⟨(some 32), .load 8 true (.tmp 7), none⟩,
 ⟨(some 33), .call 14 [(.tmp 31), (.tmp 32)], none⟩,
 ⟨(some 30), .move (.tmp 33), none⟩,
 ⟨(some 34), .extract (.tmp 30) 0, none⟩,
 ⟨(some 35), .extract (.tmp 30) 1, none⟩,
 ⟨(some 8), .move (.tmp 34), none⟩,
 ⟨(some 9), .move (.tmp 35), none⟩])
 (.seq
 (.ops [
 ⟨(some 37), .move (.tmp 4), none⟩,
 ⟨(some 38), .load 8 true (.tmp 7), none⟩,
 ⟨(some 39), .call 15 [(.tmp 37), (.tmp 38)], none⟩,
 ⟨(some 36), .move (.tmp 39), none⟩,
 ⟨(some 40), .extract (.tmp 36) 0, none⟩,
 ⟨(some 41), .extract (.tmp 36) 1, none⟩,
 ⟨(some 10), .move (.tmp 40), none⟩,
 ⟨(some 11), .move (.tmp 41), none⟩])
 (.seq
 (.ops [
 ⟨(some 42), .move (.tmp 8), none⟩,
 ⟨(some 43), .move (.tmp 10), none⟩,
 ⟨(some 44), .bin .neq (.tmp 42) (.tmp 43), none⟩,
 ⟨(some 45), .move (.tmp 44), none⟩,
 ⟨(some 46), .move (.tmp 9), (some (45, false))⟩,
 ⟨(some 47), .move (.tmp 11), (some (45, false))⟩,
 ⟨(some 48), .eq true false [.bool] (.tmp 46) (.tmp 47), (some (45, false))⟩,
 ⟨(some 49), .pick (.tmp 45) (.const (.bool true)) (.tmp 48), none⟩])
 (.cond (.tmp 49)
 (.seq
 (.ops [
 ⟨(some 2), .move (.const (.bool false)), none⟩])
 .ret)
 .skip)))))))))) := rfl
end Go.Proofs
