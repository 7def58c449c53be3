/- Functions' code by sight: written by a program (gen.py) out of the translation; Lean checks it against the translation. -/
import Derived.Test.YtakplhfiohjcmaaA15
import Derived.Test.YtakplhfiohjcmaaProg
namespace Go.Proofs.Ytakplhfiohjcmaa.AI
/-! reedpen/reedpenlaw10.CoverReads -/
def A3 : ACode :=
 (.seq
 (.reg [
 ⟨(some 4), .mov (.k (.bool false)), none⟩])
 (.seq
 (.seq
 (.reg [
 ⟨(some 13), .call 17 [], none⟩,
 ⟨(some 14), .un .not (.t 13), none⟩])
 (.cond (.t 14)
 (.seq
 (.reg [
 ⟨(some 4), .mov (.k (.bool false)), none⟩])
 .ret)
 .skip))
 (.seq
 (.seq
 (.reg [
 ⟨(some 15), .mov (.t 0), none⟩,
 ⟨(some 16), .len false (.t 15), none⟩,
 ⟨(some 17), .bin .gtr (.t 16) (.k (.int .i64 3000)), none⟩,
 ⟨(some 18), .mov (.t 17), none⟩,
 ⟨(some 19), .mov (.t 1), (some (18, false))⟩,
 ⟨(some 20), .bin .gtr (.t 19) (.k (.int .i64 3000)), (some (18, false))⟩,
 ⟨(some 21), .pick (.t 18) (.k (.bool true)) (.t 20), none⟩,
 ⟨(some 22), .mov (.t 21), none⟩,
 ⟨(some 23), .mov (.t 1), (some (22, false))⟩,
 ⟨(some 24), .bin .lss (.t 23) (.k (.int .i64 (-3000))), (some (22, false))⟩,
 ⟨(some 25), .pick (.t 22) (.k (.bool true)) (.t 24), none⟩])
 (.cond (.t 25)
 (.seq
 (.reg [
 ⟨(some 4), .mov (.k (.bool true)), none⟩])
 .ret)
 .skip))
 (.seq
 (.reg [
 ⟨(some 27), .mov (.t 0), none⟩,
 ⟨(some 28), .mov (.t 1), none⟩,
 ⟨(some 29), .call 18 [(.t 27), (.t 28)], none⟩,
 ⟨(some 26), .mov (.t 29), none⟩,
 ⟨(some 30), .ext 0 (.t 26), none⟩,
 ⟨(some 31), .ext 1 (.t 26), none⟩,
 ⟨(some 5), .mov (.t 30), none⟩,
 ⟨(some 6), .mov (.t 31), none⟩])
 (.seq
 (.reg [
 ⟨(some 33), .mov (.t 0), none⟩,
 ⟨(some 34), .mov (.t 1), none⟩,
 ⟨(some 35), .call 19 [(.t 33), (.t 34)], none⟩,
 ⟨(some 32), .mov (.t 35), none⟩,
 ⟨(some 36), .ext 0 (.t 32), none⟩,
 ⟨(some 37), .ext 1 (.t 32), none⟩,
 ⟨(some 7), .mov (.t 36), none⟩,
 ⟨(some 8), .mov (.t 37), none⟩])
 (.seq
 (.reg [
 ⟨(some 39), .mov (.t 0), none⟩,
 ⟨(some 40), .mov (.t 1), none⟩,
 ⟨(some 41), .call 20 [(.t 39), (.t 40)], none⟩,
 ⟨(some 38), .mov (.t 41), none⟩,
 ⟨(some 42), .ext 0 (.t 38), none⟩,
 ⟨(some 43), .ext 1 (.t 38), none⟩,
 ⟨(some 9), .mov (.t 42), none⟩,
 ⟨(some 10), .mov (.t 43), none⟩])
 (.seq
 (.reg [
 ⟨(some 45), .mov (.t 0), none⟩,
 ⟨(some 46), .mov (.t 1), none⟩,
 ⟨(some 47), .call 21 [(.t 45), (.t 46)], none⟩,
 ⟨(some 44), .mov (.t 47), none⟩,
 ⟨(some 48), .ext 0 (.t 44), none⟩,
 ⟨(some 49), .ext 1 (.t 44), none⟩,
 ⟨(some 11), .mov (.t 48), none⟩,
 ⟨(some 12), .mov (.t 49), none⟩])
 (.seq
 (.reg [
 ⟨(some 50), .mov (.t 6), none⟩,
 ⟨(some 51), .mov (.t 8), none⟩,
 ⟨(some 52), .eqb false (.t 50) (.t 51), none⟩,
 ⟨(some 53), .mov (.t 52), none⟩,
 ⟨(some 54), .mov (.t 5), (some (53, true))⟩,
 ⟨(some 55), .mov (.t 7), (some (53, true))⟩,
 ⟨(some 56), .call 22 [(.t 54), (.t 55)], (some (53, true))⟩,
 ⟨(some 57), .pick (.t 53) (.t 56) (.k (.bool false)), none⟩,
 ⟨(some 58), .mov (.t 57), none⟩,
 ⟨(some 59), .mov (.t 10), (some (58, true))⟩,
 ⟨(some 60), .mov (.t 12), (some (58, true))⟩,
 ⟨(some 61), .eqb false (.t 59) (.t 60), (some (58, true))⟩,
 ⟨(some 62), .pick (.t 58) (.t 61) (.k (.bool false)), none⟩,
 ⟨(some 63), .mov (.t 62), none⟩,
 ⟨(some 64), .mov (.t 9), (some (63, true))⟩,
 ⟨(some 65), .mov (.t 11), (some (63, true))⟩,
 ⟨(some 66), .call 23 [(.t 64), (.t 65)], (some (63, true))⟩,
 ⟨(some 67), .pick (.t 63) (.t 66) (.k (.bool false)), none⟩,
 ⟨(some 4), .mov (.t 67), none⟩])
 .ret))))))))
theorem a3 : Go.Proofs.Try.f3.body.bind (comp Go.Proofs.Try.prog) = some A3 := by kernel_rfl
theorem r3 : compRVs Go.Proofs.Try.prog Go.Proofs.Try.f3.results.toList = some [.tmp 4] := by kernel_rfl
theorem n3 : (Go.Proofs.Try.f3.name == "runtime.NumGoroutine") = false := by decide +kernel
def E3 : Nat × ACode × Nat × List RV := (3, A3, 68, [.tmp 4])
theorem e3 : EntryOk Go.Proofs.Try.prog E3 := ⟨Go.Proofs.Try.f3, Go.Proofs.Try.func3, n3, a3, Go.Proofs.Try.ntmps3, r3⟩
/-! reedpen/reedpenlaw10.CoverFinds -/
def A4 : ACode :=
 (.seq
 (.reg [
 ⟨(some 8), .mov (.k (.bool false)), none⟩])
 (.seq
 (.seq
 (.reg [
 ⟨(some 12), .call 17 [], none⟩,
 ⟨(some 13), .un .not (.t 12), none⟩])
 (.cond (.t 13)
 (.seq
 (.reg [
 ⟨(some 8), .mov (.k (.bool false)), none⟩])
 .ret)
 .skip))
 (.seq
 (.seq
 (.reg [
 ⟨(some 14), .mov (.t 0), none⟩,
 ⟨(some 15), .call 24 [(.t 14)], none⟩,
 ⟨(some 16), .un .not (.t 15), none⟩,
 ⟨(some 17), .mov (.t 16), none⟩,
 ⟨(some 18), .mov (.t 1), (some (17, false))⟩,
 ⟨(some 19), .call 25 [(.t 18)], (some (17, false))⟩,
 ⟨(some 20), .un .not (.t 19), (some (17, false))⟩,
 ⟨(some 21), .pick (.t 17) (.k (.bool true)) (.t 20), none⟩])
 (.cond (.t 21)
 (.seq
 (.reg [
 ⟨(some 8), .mov (.k (.bool true)), none⟩])
 .ret)
 .skip))
 (.seq
 (.reg [
 ⟨(some 22), .mov (.t 0), none⟩,
 ⟨(some 23), .mov (.t 2), none⟩,
 ⟨(some 24), .build [(.vec true []), (.bool false)] [(0, 1, (.t 22)), (1, 1, (.t 23))], none⟩,
 ⟨(some 9), .new [(.vec true []), (.bool false)] 36, none⟩,
 ⟨none, .store 2 (.t 9) (.t 24), none⟩])
 (.seq
 (.reg [
 ⟨(some 10), .mov (.k (.int .i64 0)), none⟩])
 (.seq
 (.seq
 (.reg [
 ⟨(some 11), .mov (.k (.int .i64 0)), none⟩])
 (.block 0
 (.loop
 (.seq
 (.seq
 (.reg [
 ⟨(some 25), .mov (.t 11), none⟩,
 ⟨(some 26), .mov (.t 0), none⟩,
 ⟨(some 27), .len false (.t 26), none⟩,
 ⟨(some 28), .bin .lss (.t 25) (.t 27), none⟩])
 (.cond (.t 28)
 .skip
 (.exit 0)))
 (.seq
 (.block 1
 (.seq
 (.regd [
 ⟨⟨(some 31), .mov (.t 10), none⟩, 0, [], false⟩,
 ⟨⟨(some 32), .mov (.t 0), none⟩, 1, [], false⟩,
 ⟨⟨(some 33), .mov (.t 11), none⟩, 2, [], false⟩,
 ⟨⟨(some 34), .idx 2 (.t 32) (.t 33), none⟩, 3, [], false⟩,
 ⟨⟨(some 35), .fld 1 (.t 34), none⟩, 4, [], false⟩,
 ⟨⟨(some 36), .load 1 false (.t 35), none⟩, 5, [], false⟩,
 ⟨⟨(some 37), .bin .add (.t 31) (.t 36), none⟩, 6, [], false⟩,
 ⟨⟨(some 38), .mov (.t 0), none⟩, 7, [], false⟩,
 ⟨⟨(some 39), .mov (.t 11), none⟩, 8, [], false⟩,
 ⟨⟨(some 40), .idx 2 (.t 38) (.t 39), none⟩, 9, [], false⟩,
 ⟨⟨(some 41), .fld 0 (.t 40), none⟩, 10, [], false⟩,
 ⟨⟨(some 42), .load 1 false (.t 41), none⟩, 11, [], false⟩,
 ⟨⟨(some 43), .bin .sub (.t 37) (.t 42), none⟩, 12, [], false⟩,
 ⟨⟨(some 44), .bin .add (.t 43) (.k (.int .i64 1)), none⟩, 13, [], false⟩,
 ⟨⟨(some 10), .mov (.t 44), none⟩, 14, [], false⟩])
 (.seq
 (.regd [
 ⟨⟨(some 45), .mov (.t 0), none⟩, 0, [], false⟩,
 ⟨⟨(some 46), .mov (.t 0), none⟩, 1, [], false⟩,
 ⟨⟨(some 47), .mov (.t 11), none⟩, 2, [], false⟩,
 ⟨⟨(some 48), .idx 2 (.t 46) (.t 47), none⟩, 3, [], false⟩,
 ⟨⟨(some 49), .fld 1 (.t 48), none⟩, 4, [], false⟩,
 ⟨⟨(some 50), .load 1 false (.t 49), none⟩, 5, [], false⟩,
 ⟨⟨(some 52), .mov (.t 0), none⟩, 7, [], false⟩,
 ⟨⟨(some 53), .mov (.t 0), none⟩, 8, [], false⟩,
 ⟨⟨(some 54), .mov (.t 11), none⟩, 9, [], false⟩,
 ⟨⟨(some 55), .idx 2 (.t 53) (.t 54), none⟩, 10, [], true⟩,
 ⟨⟨(some 56), .fld 1 (.t 55), none⟩, 11, [], false⟩,
 ⟨⟨(some 57), .load 1 false (.t 56), none⟩, 12, [], true⟩,
 ⟨⟨(some 51), .call 26 [(.t 45), (.t 50)], none⟩, 6, [0, 5, 4, 3, 1, 2], false⟩,
 ⟨⟨(some 58), .call 27 [(.t 52), (.t 57)], none⟩, 13, [7, 12, 11, 10, 8, 9, 6, 0, 5, 4, 3, 1, 2], false⟩,
 ⟨⟨(some 59), .bin .neq (.t 51) (.t 58), none⟩, 14, [], false⟩,
 ⟨⟨(some 60), .mov (.t 59), none⟩, 15, [], false⟩,
 ⟨⟨(some 61), .mov (.t 0), (some (60, false))⟩, 16, [], false⟩,
 ⟨⟨(some 62), .mov (.t 0), (some (60, false))⟩, 17, [], false⟩,
 ⟨⟨(some 63), .mov (.t 11), (some (60, false))⟩, 18, [], false⟩,
 ⟨⟨(some 64), .idx 2 (.t 62) (.t 63), (some (60, false))⟩, 19, [], true⟩,
 ⟨⟨(some 65), .fld 0 (.t 64), (some (60, false))⟩, 20, [], false⟩,
 ⟨⟨(some 66), .load 1 false (.t 65), (some (60, false))⟩, 21, [], true⟩,
 ⟨⟨(some 67), .bin .sub (.t 66) (.k (.int .i64 1)), (some (60, false))⟩, 22, [], false⟩,
 ⟨⟨(some 69), .mov (.t 0), (some (60, false))⟩, 24, [], false⟩,
 ⟨⟨(some 70), .mov (.t 0), (some (60, false))⟩, 25, [], false⟩,
 ⟨⟨(some 71), .mov (.t 11), (some (60, false))⟩, 26, [], false⟩,
 ⟨⟨(some 72), .idx 2 (.t 70) (.t 71), (some (60, false))⟩, 27, [], true⟩,
 ⟨⟨(some 73), .fld 0 (.t 72), (some (60, false))⟩, 28, [], false⟩,
 ⟨⟨(some 74), .load 1 false (.t 73), (some (60, false))⟩, 29, [], true⟩,
 ⟨⟨(some 75), .bin .sub (.t 74) (.k (.int .i64 1)), (some (60, false))⟩, 30, [], false⟩,
 ⟨⟨(some 68), .call 26 [(.t 61), (.t 67)], (some (60, false))⟩, 23, [16, 15, 14, 6, 0, 5, 4, 3, 1, 2, 13, 7, 12, 11, 10, 8, 9, 22, 21, 20, 19, 17, 18], false⟩,
 ⟨⟨(some 76), .call 27 [(.t 69), (.t 75)], (some (60, false))⟩, 31, [24, 15, 14, 6, 0, 5, 4, 3, 1, 2, 13, 7, 12, 11, 10, 8, 9, 30, 29, 28, 27, 25, 26, 23, 16, 22, 21, 20, 19, 17, 18], false⟩,
 ⟨⟨(some 77), .bin .neq (.t 68) (.t 76), (some (60, false))⟩, 32, [], false⟩,
 ⟨⟨(some 78), .pick (.t 60) (.k (.bool true)) (.t 77), none⟩, 33, [], false⟩])
 (.cond (.t 78)
 (.seq
 (.reg [
 ⟨(some 8), .mov (.k (.bool false)), none⟩])
 .ret)
 .skip))))
 (.reg [
 ⟨(some 29), .mov (.t 11), none⟩,
 ⟨(some 30), .bin .add (.t 29) (.k (.int .i64 1)), none⟩,
 ⟨(some 11), .mov (.t 30), none⟩]))))))
 (.seq
 (.regd [
 ⟨⟨(some 79), .mov (.t 0), none⟩, 0, [], false⟩,
 ⟨⟨(some 81), .mov (.t 10), none⟩, 2, [], false⟩,
 ⟨⟨(some 80), .call 28 [(.t 79)], none⟩, 1, [0], false⟩,
 ⟨⟨(some 82), .bin .eql (.t 80) (.t 81), none⟩, 3, [], false⟩,
 ⟨⟨(some 83), .mov (.t 82), none⟩, 4, [], false⟩,
 ⟨⟨(some 84), .mov (.t 0), (some (83, true))⟩, 5, [], false⟩,
 ⟨⟨(some 85), .mov (.t 3), (some (83, true))⟩, 6, [], false⟩,
 ⟨⟨(some 87), .mov (.t 0), (some (83, true))⟩, 8, [], false⟩,
 ⟨⟨(some 88), .mov (.t 3), (some (83, true))⟩, 9, [], false⟩,
 ⟨⟨(some 86), .call 26 [(.t 84), (.t 85)], (some (83, true))⟩, 7, [5, 4, 3, 1, 0, 2, 6], false⟩,
 ⟨⟨(some 89), .call 27 [(.t 87), (.t 88)], (some (83, true))⟩, 10, [8, 4, 3, 1, 0, 2, 9, 7, 5, 6], false⟩,
 ⟨⟨(some 90), .bin .eql (.t 86) (.t 89), (some (83, true))⟩, 11, [], false⟩,
 ⟨⟨(some 91), .pick (.t 83) (.t 90) (.k (.bool false)), none⟩, 12, [], false⟩,
 ⟨⟨(some 92), .mov (.t 91), none⟩, 13, [], false⟩,
 ⟨⟨(some 93), .mov (.t 1), (some (92, true))⟩, 14, [], false⟩,
 ⟨⟨(some 94), .mov (.t 3), (some (92, true))⟩, 15, [], false⟩,
 ⟨⟨(some 96), .mov (.t 1), (some (92, true))⟩, 17, [], false⟩,
 ⟨⟨(some 97), .mov (.t 3), (some (92, true))⟩, 18, [], false⟩,
 ⟨⟨(some 95), .call 29 [(.t 93), (.t 94)], (some (92, true))⟩, 16, [14, 13, 12, 4, 3, 1, 0, 2, 11, 7, 5, 6, 10, 8, 9, 15], false⟩,
 ⟨⟨(some 98), .call 30 [(.t 96), (.t 97)], (some (92, true))⟩, 19, [17, 13, 12, 4, 3, 1, 0, 2, 11, 7, 5, 6, 10, 8, 9, 18, 16, 14, 15], false⟩,
 ⟨⟨(some 99), .bin .eql (.t 95) (.t 98), (some (92, true))⟩, 20, [], false⟩,
 ⟨⟨(some 100), .pick (.t 92) (.t 99) (.k (.bool false)), none⟩, 21, [], false⟩,
 ⟨⟨(some 101), .mov (.t 100), none⟩, 22, [], false⟩,
 ⟨⟨(some 102), .load 2 true (.t 9), (some (101, true))⟩, 23, [], true⟩,
 ⟨⟨(some 103), .mov (.t 3), (some (101, true))⟩, 24, [], false⟩,
 ⟨⟨(some 105), .load 2 true (.t 9), (some (101, true))⟩, 26, [], true⟩,
 ⟨⟨(some 106), .mov (.t 3), (some (101, true))⟩, 27, [], false⟩,
 ⟨⟨(some 104), .call 31 [(.t 102), (.t 103)], (some (101, true))⟩, 25, [23, 22, 21, 13, 12, 4, 3, 1, 0, 2, 11, 7, 5, 6, 10, 8, 9, 20, 16, 14, 15, 19, 17, 18, 24], false⟩,
 ⟨⟨(some 107), .call 32 [(.t 105), (.t 106)], (some (101, true))⟩, 28, [26, 22, 21, 13, 12, 4, 3, 1, 0, 2, 11, 7, 5, 6, 10, 8, 9, 20, 16, 14, 15, 19, 17, 18, 27, 25, 23, 24], false⟩,
 ⟨⟨(some 108), .eqb false (.t 104) (.t 107), (some (101, true))⟩, 29, [], false⟩,
 ⟨⟨(some 109), .pick (.t 101) (.t 108) (.k (.bool false)), none⟩, 30, [], false⟩,
 ⟨⟨(some 8), .mov (.t 109), none⟩, 31, [], false⟩])
 .ret)))))))
theorem a4 : Go.Proofs.Try.f4.body.bind (comp Go.Proofs.Try.prog) = some A4 := by kernel_rfl
theorem r4 : compRVs Go.Proofs.Try.prog Go.Proofs.Try.f4.results.toList = some [.tmp 8] := by kernel_rfl
theorem n4 : (Go.Proofs.Try.f4.name == "runtime.NumGoroutine") = false := by decide +kernel
def E4 : Nat × ACode × Nat × List RV := (4, A4, 110, [.tmp 8])
theorem e4 : EntryOk Go.Proofs.Try.prog E4 := ⟨Go.Proofs.Try.f4, Go.Proofs.Try.func4, n4, a4, Go.Proofs.Try.ntmps4, r4⟩
/-! reedpen/reedpenlaw10.CoverMeets -/
def A6 : ACode :=
 (.seq
 (.reg [
 ⟨(some 8), .mov (.k (.bool false)), none⟩])
 (.seq
 (.seq
 (.reg [
 ⟨(some 12), .call 17 [], none⟩,
 ⟨(some 13), .un .not (.t 12), none⟩])
 (.cond (.t 13)
 (.seq
 (.reg [
 ⟨(some 8), .mov (.k (.bool false)), none⟩])
 .ret)
 .skip))
 (.seq
 (.seq
 (.reg [
 ⟨(some 14), .mov (.t 0), none⟩,
 ⟨(some 15), .call 24 [(.t 14)], none⟩,
 ⟨(some 16), .un .not (.t 15), none⟩,
 ⟨(some 17), .mov (.t 16), none⟩,
 ⟨(some 18), .mov (.t 1), (some (17, false))⟩,
 ⟨(some 19), .call 25 [(.t 18)], (some (17, false))⟩,
 ⟨(some 20), .un .not (.t 19), (some (17, false))⟩,
 ⟨(some 21), .pick (.t 17) (.k (.bool true)) (.t 20), none⟩])
 (.cond (.t 21)
 (.seq
 (.reg [
 ⟨(some 8), .mov (.k (.bool true)), none⟩])
 .ret)
 .skip))
 (.seq
 (.reg [
 ⟨(some 22), .mov (.t 1), none⟩,
 ⟨(some 23), .mov (.t 2), none⟩,
 ⟨(some 24), .call 33 [(.t 22), (.t 23)], none⟩,
 ⟨(some 9), .new [(.vec true []), (.bool false)] 36, none⟩,
 ⟨none, .store 2 (.t 9) (.t 24), none⟩])
 (.seq
 (.reg [
 ⟨(some 25), .mov (.t 0), none⟩,
 ⟨(some 26), .load 2 true (.t 9), none⟩,
 ⟨(some 27), .call 34 [(.t 25), (.t 26)], none⟩,
 ⟨(some 10), .mov (.t 27), none⟩])
 (.seq
 (.reg [
 ⟨(some 28), .load 2 true (.t 9), none⟩,
 ⟨(some 29), .mov (.t 3), none⟩,
 ⟨(some 30), .call 31 [(.t 28), (.t 29)], none⟩,
 ⟨(some 11), .mov (.t 30), none⟩])
 (.seq
 (.reg [
 ⟨(some 31), .mov (.t 11), none⟩,
 ⟨(some 32), .mov (.t 1), none⟩,
 ⟨(some 33), .mov (.t 3), none⟩,
 ⟨(some 34), .call 29 [(.t 32), (.t 33)], none⟩,
 ⟨(some 35), .mov (.t 2), none⟩,
 ⟨(some 36), .bin .eql (.t 34) (.t 35), none⟩,
 ⟨(some 37), .eqb false (.t 31) (.t 36), none⟩,
 ⟨(some 38), .mov (.t 37), none⟩,
 ⟨(some 39), .mov (.t 10), (some (38, true))⟩,
 ⟨(some 40), .mov (.t 3), (some (38, true))⟩,
 ⟨(some 41), .call 26 [(.t 39), (.t 40)], (some (38, true))⟩,
 ⟨(some 42), .bin .geq (.t 41) (.k (.int .i64 0)), (some (38, true))⟩,
 ⟨(some 43), .mov (.t 11), (some (38, true))⟩,
 ⟨(some 44), .mov (.t 43), (some (38, true))⟩,
 ⟨(some 45), .mov (.t 0), (some (44, true))⟩,
 ⟨(some 46), .mov (.t 3), (some (44, true))⟩,
 ⟨(some 47), .call 26 [(.t 45), (.t 46)], (some (44, true))⟩,
 ⟨(some 48), .bin .geq (.t 47) (.k (.int .i64 0)), (some (44, true))⟩,
 ⟨(some 49), .pick (.t 44) (.t 48) (.k (.bool false)), (some (38, true))⟩,
 ⟨(some 50), .eqb false (.t 42) (.t 49), (some (38, true))⟩,
 ⟨(some 51), .pick (.t 38) (.t 50) (.k (.bool false)), none⟩,
 ⟨(some 52), .mov (.t 51), none⟩,
 ⟨(some 53), .mov (.t 10), (some (52, true))⟩,
 ⟨(some 54), .call 28 [(.t 53)], (some (52, true))⟩,
 ⟨(some 55), .mov (.t 0), (some (52, true))⟩,
 ⟨(some 56), .call 28 [(.t 55)], (some (52, true))⟩,
 ⟨(some 57), .bin .leq (.t 54) (.t 56), (some (52, true))⟩,
 ⟨(some 58), .pick (.t 52) (.t 57) (.k (.bool false)), none⟩,
 ⟨(some 8), .mov (.t 58), none⟩])
 .ret)))))))
theorem a6 : Go.Proofs.Try.f6.body.bind (comp Go.Proofs.Try.prog) = some A6 := by kernel_rfl
theorem r6 : compRVs Go.Proofs.Try.prog Go.Proofs.Try.f6.results.toList = some [.tmp 8] := by kernel_rfl
theorem n6 : (Go.Proofs.Try.f6.name == "runtime.NumGoroutine") = false := by decide +kernel
def E6 : Nat × ACode × Nat × List RV := (6, A6, 59, [.tmp 8])
theorem e6 : EntryOk Go.Proofs.Try.prog E6 := ⟨Go.Proofs.Try.f6, Go.Proofs.Try.func6, n6, a6, Go.Proofs.Try.ntmps6, r6⟩
/-! reedpen/reedpenlaw10.CoverIndex -/
def A7 : ACode :=
 (.seq
 (.reg [
 ⟨(some 4), .mov (.k (.bool false)), none⟩])
 (.seq
 (.seq
 (.reg [
 ⟨(some 9), .call 17 [], none⟩,
 ⟨(some 10), .un .not (.t 9), none⟩])
 (.cond (.t 10)
 (.seq
 (.reg [
 ⟨(some 4), .mov (.k (.bool false)), none⟩])
 .ret)
 .skip))
 (.seq
 (.seq
 (.reg [
 ⟨(some 11), .mov (.t 0), none⟩,
 ⟨(some 12), .call 24 [(.t 11)], none⟩,
 ⟨(some 13), .un .not (.t 12), none⟩,
 ⟨(some 14), .mov (.t 13), none⟩,
 ⟨(some 15), .mov (.t 0), (some (14, false))⟩,
 ⟨(some 16), .len false (.t 15), (some (14, false))⟩,
 ⟨(some 17), .bin .gtr (.t 16) (.k (.int .i64 50)), (some (14, false))⟩,
 ⟨(some 18), .pick (.t 14) (.k (.bool true)) (.t 17), none⟩,
 ⟨(some 19), .mov (.t 18), none⟩,
 ⟨(some 20), .mov (.t 0), (some (19, false))⟩,
 ⟨(some 21), .call 28 [(.t 20)], (some (19, false))⟩,
 ⟨(some 22), .bin .gtr (.t 21) (.k (.int .i64 300)), (some (19, false))⟩,
 ⟨(some 23), .pick (.t 19) (.k (.bool true)) (.t 22), none⟩])
 (.cond (.t 23)
 (.seq
 (.reg [
 ⟨(some 4), .mov (.k (.bool true)), none⟩])
 .ret)
 .skip))
 (.seq
 (.reg [
 ⟨(some 5), .mov (.k (.int .i64 0)), none⟩])
 (.seq
 (.seq
 (.reg [
 ⟨(some 6), .mov (.k (.int .i64 0)), none⟩])
 (.block 0
 (.loop
 (.seq
 (.seq
 (.reg [
 ⟨(some 24), .mov (.t 6), none⟩,
 ⟨(some 25), .mov (.t 0), none⟩,
 ⟨(some 26), .len false (.t 25), none⟩,
 ⟨(some 27), .bin .lss (.t 24) (.t 26), none⟩])
 (.cond (.t 27)
 .skip
 (.exit 0)))
 (.seq
 (.block 1
 (.seq
 (.reg [
 ⟨(some 30), .mov (.t 0), none⟩,
 ⟨(some 31), .mov (.t 6), none⟩,
 ⟨(some 32), .idx 2 (.t 30) (.t 31), none⟩,
 ⟨(some 33), .fld 0 (.t 32), none⟩,
 ⟨(some 34), .load 1 false (.t 33), none⟩,
 ⟨(some 7), .mov (.t 34), none⟩])
 (.block 2
 (.loop
 (.seq
 (.seq
 (.reg [
 ⟨(some 35), .mov (.t 7), none⟩,
 ⟨(some 36), .mov (.t 0), none⟩,
 ⟨(some 37), .mov (.t 6), none⟩,
 ⟨(some 38), .idx 2 (.t 36) (.t 37), none⟩,
 ⟨(some 39), .fld 1 (.t 38), none⟩,
 ⟨(some 40), .load 1 false (.t 39), none⟩,
 ⟨(some 41), .bin .leq (.t 35) (.t 40), none⟩])
 (.cond (.t 41)
 .skip
 (.exit 2)))
 (.seq
 (.block 3
 (.seq
 (.seq
 (.reg [
 ⟨(some 44), .mov (.t 0), none⟩,
 ⟨(some 45), .mov (.t 7), none⟩,
 ⟨(some 46), .call 26 [(.t 44), (.t 45)], none⟩,
 ⟨(some 47), .mov (.t 5), none⟩,
 ⟨(some 48), .bin .neq (.t 46) (.t 47), none⟩])
 (.cond (.t 48)
 (.seq
 (.reg [
 ⟨(some 4), .mov (.k (.bool false)), none⟩])
 .ret)
 .skip))
 (.reg [
 ⟨(some 49), .mov (.t 5), none⟩,
 ⟨(some 50), .bin .add (.t 49) (.k (.int .i64 1)), none⟩,
 ⟨(some 5), .mov (.t 50), none⟩])))
 (.reg [
 ⟨(some 42), .mov (.t 7), none⟩,
 ⟨(some 43), .bin .add (.t 42) (.k (.int .i64 1)), none⟩,
 ⟨(some 7), .mov (.t 43), none⟩])))))))
 (.reg [
 ⟨(some 28), .mov (.t 6), none⟩,
 ⟨(some 29), .bin .add (.t 28) (.k (.int .i64 1)), none⟩,
 ⟨(some 6), .mov (.t 29), none⟩]))))))
 (.seq
 (.reg [
 ⟨(some 51), .mov (.t 0), none⟩,
 ⟨(some 52), .mov (.t 1), none⟩,
 ⟨(some 53), .call 26 [(.t 51), (.t 52)], none⟩,
 ⟨(some 8), .mov (.t 53), none⟩])
 (.seq
 (.reg [
 ⟨(some 54), .mov (.t 5), none⟩,
 ⟨(some 55), .mov (.t 0), none⟩,
 ⟨(some 56), .call 28 [(.t 55)], none⟩,
 ⟨(some 57), .bin .eql (.t 54) (.t 56), none⟩,
 ⟨(some 58), .mov (.t 57), none⟩,
 ⟨(some 59), .mov (.t 8), (some (58, true))⟩,
 ⟨(some 60), .bin .geq (.t 59) (.k (.int .i64 (-1))), (some (58, true))⟩,
 ⟨(some 61), .pick (.t 58) (.t 60) (.k (.bool false)), none⟩,
 ⟨(some 62), .mov (.t 61), none⟩,
 ⟨(some 63), .mov (.t 8), (some (62, true))⟩,
 ⟨(some 64), .mov (.t 5), (some (62, true))⟩,
 ⟨(some 65), .bin .lss (.t 63) (.t 64), (some (62, true))⟩,
 ⟨(some 66), .pick (.t 62) (.t 65) (.k (.bool false)), none⟩,
 ⟨(some 67), .mov (.t 66), none⟩,
 ⟨(some 68), .mov (.t 8), (some (67, true))⟩,
 ⟨(some 69), .bin .geq (.t 68) (.k (.int .i64 0)), (some (67, true))⟩,
 ⟨(some 70), .mov (.t 0), (some (67, true))⟩,
 ⟨(some 71), .build [(.vec true []), (.bool false)] [(0, 1, (.t 70))], (some (67, true))⟩,
 ⟨(some 72), .mov (.t 1), (some (67, true))⟩,
 ⟨(some 73), .call 31 [(.t 71), (.t 72)], (some (67, true))⟩,
 ⟨(some 74), .eqb false (.t 69) (.t 73), (some (67, true))⟩,
 ⟨(some 75), .pick (.t 67) (.t 74) (.k (.bool false)), none⟩,
 ⟨(some 4), .mov (.t 75), none⟩])
 .ret)))))))
theorem a7 : Go.Proofs.Try.f7.body.bind (comp Go.Proofs.Try.prog) = some A7 := by kernel_rfl
theorem r7 : compRVs Go.Proofs.Try.prog Go.Proofs.Try.f7.results.toList = some [.tmp 4] := by kernel_rfl
theorem n7 : (Go.Proofs.Try.f7.name == "runtime.NumGoroutine") = false := by decide +kernel
def E7 : Nat × ACode × Nat × List RV := (7, A7, 76, [.tmp 4])
theorem e7 : EntryOk Go.Proofs.Try.prog E7 := ⟨Go.Proofs.Try.f7, Go.Proofs.Try.func7, n7, a7, Go.Proofs.Try.ntmps7, r7⟩
/-! reedpen/reedpenref10.Cover -/
def A19 : ACode :=
 (.seq
 (.reg [
 ⟨(some 4), .mov (.k (.vec true [])), none⟩,
 ⟨(some 5), .mov (.k (.bool false)), none⟩])
 (.seq
 (.reg [
 ⟨(some 11), .mov (.t 0), none⟩,
 ⟨(some 12), .mov (.t 1), none⟩,
 ⟨(some 13), .call 56 [(.t 11), (.t 12), (.k (.bool false))], none⟩,
 ⟨(some 10), .mov (.t 13), none⟩,
 ⟨(some 14), .ext 0 (.t 10), none⟩,
 ⟨(some 15), .ext 1 (.t 10), none⟩,
 ⟨(some 6), .mov (.t 14), none⟩,
 ⟨(some 7), .mov (.t 15), none⟩])
 (.seq
 (.seq
 (.reg [
 ⟨(some 16), .mov (.t 7), none⟩,
 ⟨(some 17), .un .not (.t 16), none⟩])
 (.cond (.t 17)
 (.seq
 (.reg [
 ⟨(some 4), .mov (.k (.vec true [])), none⟩,
 ⟨(some 5), .mov (.k (.bool false)), none⟩])
 .ret)
 .skip))
 (.seq
 (.reg [
 ⟨(some 18), .mksl 1 1 [(.bool false)] 4 (.k (.int .i64 65536)), none⟩,
 ⟨(some 8), .mov (.t 18), none⟩])
 (.seq
 (.seq
 (.reg [
 ⟨(some 9), .mov (.k (.int .i64 0)), none⟩])
 (.block 0
 (.loop
 (.seq
 (.seq
 (.reg [
 ⟨(some 19), .mov (.t 9), none⟩,
 ⟨(some 20), .bin .lss (.t 19) (.k (.int .i64 65536)), none⟩])
 (.cond (.t 20)
 .skip
 (.exit 0)))
 (.seq
 (.block 1
 (.reg [
 ⟨(some 23), .mov (.t 8), none⟩,
 ⟨(some 24), .mov (.t 9), none⟩,
 ⟨(some 25), .mov (.t 6), none⟩,
 ⟨(some 26), .mov (.t 9), none⟩,
 ⟨(some 27), .idx 1 (.t 25) (.t 26), none⟩,
 ⟨(some 28), .load 1 false (.t 27), none⟩,
 ⟨(some 29), .bin .geq (.t 28) (.k (.int .i64 0)), none⟩,
 ⟨(some 30), .idx 1 (.t 23) (.t 24), none⟩,
 ⟨none, .store 1 (.t 30) (.t 29), none⟩]))
 (.reg [
 ⟨(some 21), .mov (.t 9), none⟩,
 ⟨(some 22), .bin .add (.t 21) (.k (.int .i64 1)), none⟩,
 ⟨(some 9), .mov (.t 22), none⟩]))))))
 (.seq
 (.reg [
 ⟨(some 31), .mov (.t 8), none⟩,
 ⟨(some 32), .call 35 [(.t 31)], none⟩,
 ⟨(some 4), .mov (.t 32), none⟩,
 ⟨(some 5), .mov (.k (.bool true)), none⟩])
 .ret))))))
theorem a19 : Go.Proofs.Try.f19.body.bind (comp Go.Proofs.Try.prog) = some A19 := by kernel_rfl
theorem r19 : compRVs Go.Proofs.Try.prog Go.Proofs.Try.f19.results.toList = some [.tmp 4, .tmp 5] := by kernel_rfl
theorem n19 : (Go.Proofs.Try.f19.name == "runtime.NumGoroutine") = false := by decide +kernel
def E19 : Nat × ACode × Nat × List RV := (19, A19, 33, [.tmp 4, .tmp 5])
theorem e19 : EntryOk Go.Proofs.Try.prog E19 := ⟨Go.Proofs.Try.f19, Go.Proofs.Try.func19, n19, a19, Go.Proofs.Try.ntmps19, r19⟩
/-! reedpen/reedpenref10.Classes -/
def A21 : ACode :=
 (.seq
 (.reg [
 ⟨(some 4), .mov (.k (.vec true [])), none⟩,
 ⟨(some 5), .mov (.k (.bool false)), none⟩])
 (.seq
 (.reg [
 ⟨(some 12), .mov (.t 0), none⟩,
 ⟨(some 13), .mov (.t 1), none⟩,
 ⟨(some 14), .call 56 [(.t 12), (.t 13), (.k (.bool true))], none⟩,
 ⟨(some 11), .mov (.t 14), none⟩,
 ⟨(some 15), .ext 0 (.t 11), none⟩,
 ⟨(some 16), .ext 1 (.t 11), none⟩,
 ⟨(some 6), .mov (.t 15), none⟩,
 ⟨(some 7), .mov (.t 16), none⟩])
 (.seq
 (.seq
 (.reg [
 ⟨(some 17), .mov (.t 7), none⟩,
 ⟨(some 18), .un .not (.t 17), none⟩])
 (.cond (.t 18)
 (.seq
 (.reg [
 ⟨(some 4), .mov (.k (.vec true [])), none⟩,
 ⟨(some 5), .mov (.k (.bool false)), none⟩])
 .ret)
 .skip))
 (.seq
 (.reg [
 ⟨(some 8), .mov (.k (.vec true [])), none⟩])
 (.seq
 (.seq
 (.reg [
 ⟨(some 9), .mov (.k (.int .i64 0)), none⟩])
 (.block 0
 (.loop
 (.seq
 (.seq
 (.reg [
 ⟨(some 19), .mov (.t 9), none⟩,
 ⟨(some 20), .bin .lss (.t 19) (.k (.int .i64 65536)), none⟩])
 (.cond (.t 20)
 .skip
 (.exit 0)))
 (.seq
 (.block 1
 (.seq
 (.seq
 (.reg [
 ⟨(some 23), .mov (.t 6), none⟩,
 ⟨(some 24), .mov (.t 9), none⟩,
 ⟨(some 25), .idx 1 (.t 23) (.t 24), none⟩,
 ⟨(some 26), .load 1 false (.t 25), none⟩,
 ⟨(some 27), .bin .leq (.t 26) (.k (.int .i64 0)), none⟩])
 (.cond (.t 27)
 (.exit 1)
 .skip))
 (.seq
 (.reg [
 ⟨(some 28), .mov (.t 9), none⟩,
 ⟨(some 10), .mov (.t 28), none⟩])
 (.seq
 (.block 2
 (.loop
 (.seq
 (.seq
 (.regd [
 ⟨⟨(some 29), .mov (.t 10), none⟩, 0, [], false⟩,
 ⟨⟨(some 30), .bin .add (.t 29) (.k (.int .i64 1)), none⟩, 1, [], false⟩,
 ⟨⟨(some 31), .bin .lss (.t 30) (.k (.int .i64 65536)), none⟩, 2, [], false⟩,
 ⟨⟨(some 32), .mov (.t 31), none⟩, 3, [], false⟩,
 ⟨⟨(some 33), .mov (.t 6), (some (32, true))⟩, 4, [], false⟩,
 ⟨⟨(some 34), .mov (.t 10), (some (32, true))⟩, 5, [], false⟩,
 ⟨⟨(some 35), .bin .add (.t 34) (.k (.int .i64 1)), (some (32, true))⟩, 6, [], false⟩,
 ⟨⟨(some 36), .idx 1 (.t 33) (.t 35), (some (32, true))⟩, 7, [], false⟩,
 ⟨⟨(some 37), .load 1 false (.t 36), (some (32, true))⟩, 8, [], false⟩,
 ⟨⟨(some 38), .mov (.t 6), (some (32, true))⟩, 9, [], false⟩,
 ⟨⟨(some 39), .mov (.t 9), (some (32, true))⟩, 10, [], false⟩,
 ⟨⟨(some 40), .idx 1 (.t 38) (.t 39), (some (32, true))⟩, 11, [], false⟩,
 ⟨⟨(some 41), .load 1 false (.t 40), (some (32, true))⟩, 12, [], false⟩,
 ⟨⟨(some 42), .bin .eql (.t 37) (.t 41), (some (32, true))⟩, 13, [], false⟩,
 ⟨⟨(some 43), .pick (.t 32) (.t 42) (.k (.bool false)), none⟩, 14, [], false⟩])
 (.cond (.t 43)
 .skip
 (.exit 2)))
 (.block 3
 (.reg [
 ⟨(some 44), .mov (.t 10), none⟩,
 ⟨(some 45), .bin .add (.t 44) (.k (.int .i64 1)), none⟩,
 ⟨(some 10), .mov (.t 45), none⟩])))))
 (.seq
 (.reg [
 ⟨(some 46), .mov (.t 8), none⟩,
 ⟨(some 47), .mov (.t 9), none⟩,
 ⟨(some 48), .mov (.t 10), none⟩,
 ⟨(some 49), .mov (.t 6), none⟩,
 ⟨(some 50), .mov (.t 9), none⟩,
 ⟨(some 51), .idx 1 (.t 49) (.t 50), none⟩,
 ⟨(some 52), .load 1 false (.t 51), none⟩,
 ⟨(some 53), .build [(.int .i64 0), (.int .i64 0), (.int .i64 0)] [(0, 1, (.t 47)), (1, 1, (.t 48)), (2, 1, (.t 52))], none⟩,
 ⟨(some 54), .lits 3 48 [(.t 53)], none⟩,
 ⟨(some 55), .app 3 24 48 (.t 46) (.t 54), none⟩,
 ⟨(some 8), .mov (.t 55), none⟩])
 (.reg [
 ⟨(some 56), .mov (.t 10), none⟩,
 ⟨(some 9), .mov (.t 56), none⟩]))))))
 (.reg [
 ⟨(some 21), .mov (.t 9), none⟩,
 ⟨(some 22), .bin .add (.t 21) (.k (.int .i64 1)), none⟩,
 ⟨(some 9), .mov (.t 22), none⟩]))))))
 (.seq
 (.reg [
 ⟨(some 57), .mov (.t 8), none⟩,
 ⟨(some 4), .mov (.t 57), none⟩,
 ⟨(some 5), .mov (.k (.bool true)), none⟩])
 .ret))))))
theorem a21 : Go.Proofs.Try.f21.body.bind (comp Go.Proofs.Try.prog) = some A21 := by kernel_rfl
theorem r21 : compRVs Go.Proofs.Try.prog Go.Proofs.Try.f21.results.toList = some [.tmp 4, .tmp 5] := by kernel_rfl
theorem n21 : (Go.Proofs.Try.f21.name == "runtime.NumGoroutine") = false := by decide +kernel
def E21 : Nat × ACode × Nat × List RV := (21, A21, 58, [.tmp 4, .tmp 5])
theorem e21 : EntryOk Go.Proofs.Try.prog E21 := ⟨Go.Proofs.Try.f21, Go.Proofs.Try.func21, n21, a21, Go.Proofs.Try.ntmps21, r21⟩
/-! reedpen/reedpenref10.Right -/
def A24 : ACode :=
 (.seq
 (.reg [
 ⟨(some 2), .mov (.k (.bool false)), none⟩])
 (.seq
 (.seq
 (.reg [
 ⟨(some 3), .mov (.k (.int .i64 0)), none⟩])
 (.block 0
 (.loop
 (.seq
 (.seq
 (.reg [
 ⟨(some 4), .mov (.t 3), none⟩,
 ⟨(some 5), .mov (.t 0), none⟩,
 ⟨(some 6), .len false (.t 5), none⟩,
 ⟨(some 7), .bin .lss (.t 4) (.t 6), none⟩])
 (.cond (.t 7)
 .skip
 (.exit 0)))
 (.seq
 (.block 1
 (.seq
 (.regd [
 ⟨⟨(some 10), .mov (.t 0), none⟩, 0, [], false⟩,
 ⟨⟨(some 11), .mov (.t 3), none⟩, 1, [], false⟩,
 ⟨⟨(some 12), .idx 2 (.t 10) (.t 11), none⟩, 2, [], false⟩,
 ⟨⟨(some 13), .fld 0 (.t 12), none⟩, 3, [], false⟩,
 ⟨⟨(some 14), .load 1 false (.t 13), none⟩, 4, [], false⟩,
 ⟨⟨(some 15), .bin .lss (.t 14) (.k (.int .i64 0)), none⟩, 5, [], false⟩,
 ⟨⟨(some 16), .mov (.t 15), none⟩, 6, [], false⟩,
 ⟨⟨(some 17), .mov (.t 0), (some (16, false))⟩, 7, [], false⟩,
 ⟨⟨(some 18), .mov (.t 3), (some (16, false))⟩, 8, [], false⟩,
 ⟨⟨(some 19), .idx 2 (.t 17) (.t 18), (some (16, false))⟩, 9, [], false⟩,
 ⟨⟨(some 20), .fld 1 (.t 19), (some (16, false))⟩, 10, [], false⟩,
 ⟨⟨(some 21), .load 1 false (.t 20), (some (16, false))⟩, 11, [], false⟩,
 ⟨⟨(some 22), .bin .gtr (.t 21) (.k (.int .i64 65535)), (some (16, false))⟩, 12, [], false⟩,
 ⟨⟨(some 23), .pick (.t 16) (.k (.bool true)) (.t 22), none⟩, 13, [], false⟩,
 ⟨⟨(some 24), .mov (.t 23), none⟩, 14, [], false⟩,
 ⟨⟨(some 25), .mov (.t 0), (some (24, false))⟩, 15, [], false⟩,
 ⟨⟨(some 26), .mov (.t 3), (some (24, false))⟩, 16, [], false⟩,
 ⟨⟨(some 27), .idx 2 (.t 25) (.t 26), (some (24, false))⟩, 17, [], false⟩,
 ⟨⟨(some 28), .fld 0 (.t 27), (some (24, false))⟩, 18, [], false⟩,
 ⟨⟨(some 29), .load 1 false (.t 28), (some (24, false))⟩, 19, [], false⟩,
 ⟨⟨(some 30), .mov (.t 0), (some (24, false))⟩, 20, [], false⟩,
 ⟨⟨(some 31), .mov (.t 3), (some (24, false))⟩, 21, [], false⟩,
 ⟨⟨(some 32), .idx 2 (.t 30) (.t 31), (some (24, false))⟩, 22, [], false⟩,
 ⟨⟨(some 33), .fld 1 (.t 32), (some (24, false))⟩, 23, [], false⟩,
 ⟨⟨(some 34), .load 1 false (.t 33), (some (24, false))⟩, 24, [], false⟩,
 ⟨⟨(some 35), .bin .gtr (.t 29) (.t 34), (some (24, false))⟩, 25, [], false⟩,
 ⟨⟨(some 36), .pick (.t 24) (.k (.bool true)) (.t 35), none⟩, 26, [], false⟩,
 ⟨⟨(some 37), .mov (.t 36), none⟩, 27, [], false⟩,
 ⟨⟨(some 38), .mov (.t 3), (some (37, false))⟩, 28, [], false⟩,
 ⟨⟨(some 39), .bin .gtr (.t 38) (.k (.int .i64 0)), (some (37, false))⟩, 29, [], false⟩,
 ⟨⟨(some 40), .mov (.t 39), (some (37, false))⟩, 30, [], false⟩,
 ⟨⟨(some 41), .mov (.t 0), (some (40, true))⟩, 31, [], false⟩,
 ⟨⟨(some 42), .mov (.t 3), (some (40, true))⟩, 32, [], false⟩,
 ⟨⟨(some 43), .idx 2 (.t 41) (.t 42), (some (40, true))⟩, 33, [], false⟩,
 ⟨⟨(some 44), .fld 0 (.t 43), (some (40, true))⟩, 34, [], false⟩,
 ⟨⟨(some 45), .load 1 false (.t 44), (some (40, true))⟩, 35, [], false⟩,
 ⟨⟨(some 46), .bin .sub (.t 45) (.k (.int .i64 1)), (some (40, true))⟩, 36, [], false⟩,
 ⟨⟨(some 47), .mov (.t 0), (some (40, true))⟩, 37, [], false⟩,
 ⟨⟨(some 48), .mov (.t 3), (some (40, true))⟩, 38, [], false⟩,
 ⟨⟨(some 49), .bin .sub (.t 48) (.k (.int .i64 1)), (some (40, true))⟩, 39, [], false⟩,
 ⟨⟨(some 50), .idx 2 (.t 47) (.t 49), (some (40, true))⟩, 40, [], false⟩,
 ⟨⟨(some 51), .fld 1 (.t 50), (some (40, true))⟩, 41, [], false⟩,
 ⟨⟨(some 52), .load 1 false (.t 51), (some (40, true))⟩, 42, [], false⟩,
 ⟨⟨(some 53), .bin .leq (.t 46) (.t 52), (some (40, true))⟩, 43, [], false⟩,
 ⟨⟨(some 54), .pick (.t 40) (.t 53) (.k (.bool false)), (some (37, false))⟩, 44, [], false⟩,
 ⟨⟨(some 55), .pick (.t 37) (.k (.bool true)) (.t 54), none⟩, 45, [], false⟩])
 (.cond (.t 55)
 (.seq
 (.reg [
 ⟨(some 2), .mov (.k (.bool false)), none⟩])
 .ret)
 .skip)))
 (.reg [
 ⟨(some 8), .mov (.t 3), none⟩,
 ⟨(some 9), .bin .add (.t 8) (.k (.int .i64 1)), none⟩,
 ⟨(some 3), .mov (.t 9), none⟩]))))))
 (.seq
 (.reg [
 ⟨(some 56), .mov (.t 0), none⟩,
 ⟨(some 57), .len false (.t 56), none⟩,
 ⟨(some 58), .bin .leq (.t 57) (.k (.int .i64 5000)), none⟩,
 ⟨(some 2), .mov (.t 58), none⟩])
 .ret)))
theorem a24 : Go.Proofs.Try.f24.body.bind (comp Go.Proofs.Try.prog) = some A24 := by kernel_rfl
theorem r24 : compRVs Go.Proofs.Try.prog Go.Proofs.Try.f24.results.toList = some [.tmp 2] := by kernel_rfl
theorem n24 : (Go.Proofs.Try.f24.name == "runtime.NumGoroutine") = false := by decide +kernel
def E24 : Nat × ACode × Nat × List RV := (24, A24, 59, [.tmp 2])
theorem e24 : EntryOk Go.Proofs.Try.prog E24 := ⟨Go.Proofs.Try.f24, Go.Proofs.Try.func24, n24, a24, Go.Proofs.Try.ntmps24, r24⟩
/-! reedpen/reedpenref10.RightClasses -/
def A25 : ACode :=
 (.seq
 (.reg [
 ⟨(some 2), .mov (.k (.bool false)), none⟩])
 (.seq
 (.seq
 (.reg [
 ⟨(some 3), .mov (.k (.int .i64 0)), none⟩])
 (.block 0
 (.loop
 (.seq
 (.seq
 (.reg [
 ⟨(some 5), .mov (.t 3), none⟩,
 ⟨(some 6), .mov (.t 0), none⟩,
 ⟨(some 7), .len false (.t 6), none⟩,
 ⟨(some 8), .bin .lss (.t 5) (.t 7), none⟩])
 (.cond (.t 8)
 .skip
 (.exit 0)))
 (.seq
 (.block 1
 (.seq
 (.reg [
 ⟨(some 11), .mov (.t 0), none⟩,
 ⟨(some 12), .mov (.t 3), none⟩,
 ⟨(some 13), .idx 3 (.t 11) (.t 12), none⟩,
 ⟨(some 14), .load 3 true (.t 13), none⟩,
 ⟨(some 4), .new [(.int .i64 0), (.int .i64 0), (.int .i64 0)] 48, none⟩,
 ⟨none, .store 3 (.t 4) (.t 14), none⟩])
 (.seq
 (.regd [
 ⟨⟨(some 15), .fld 0 (.t 4), none⟩, 0, [], false⟩,
 ⟨⟨(some 16), .load 1 false (.t 15), none⟩, 1, [], false⟩,
 ⟨⟨(some 17), .bin .lss (.t 16) (.k (.int .i64 0)), none⟩, 2, [], false⟩,
 ⟨⟨(some 18), .mov (.t 17), none⟩, 3, [], false⟩,
 ⟨⟨(some 19), .fld 1 (.t 4), (some (18, false))⟩, 4, [], false⟩,
 ⟨⟨(some 20), .load 1 false (.t 19), (some (18, false))⟩, 5, [], false⟩,
 ⟨⟨(some 21), .bin .gtr (.t 20) (.k (.int .i64 65535)), (some (18, false))⟩, 6, [], false⟩,
 ⟨⟨(some 22), .pick (.t 18) (.k (.bool true)) (.t 21), none⟩, 7, [], false⟩,
 ⟨⟨(some 23), .mov (.t 22), none⟩, 8, [], false⟩,
 ⟨⟨(some 24), .fld 0 (.t 4), (some (23, false))⟩, 9, [], false⟩,
 ⟨⟨(some 25), .load 1 false (.t 24), (some (23, false))⟩, 10, [], false⟩,
 ⟨⟨(some 26), .fld 1 (.t 4), (some (23, false))⟩, 11, [], false⟩,
 ⟨⟨(some 27), .load 1 false (.t 26), (some (23, false))⟩, 12, [], false⟩,
 ⟨⟨(some 28), .bin .gtr (.t 25) (.t 27), (some (23, false))⟩, 13, [], false⟩,
 ⟨⟨(some 29), .pick (.t 23) (.k (.bool true)) (.t 28), none⟩, 14, [], false⟩,
 ⟨⟨(some 30), .mov (.t 29), none⟩, 15, [], false⟩,
 ⟨⟨(some 31), .fld 2 (.t 4), (some (30, false))⟩, 16, [], false⟩,
 ⟨⟨(some 32), .load 1 false (.t 31), (some (30, false))⟩, 17, [], false⟩,
 ⟨⟨(some 33), .bin .lss (.t 32) (.k (.int .i64 1)), (some (30, false))⟩, 18, [], false⟩,
 ⟨⟨(some 34), .pick (.t 30) (.k (.bool true)) (.t 33), none⟩, 19, [], false⟩,
 ⟨⟨(some 35), .mov (.t 34), none⟩, 20, [], false⟩,
 ⟨⟨(some 36), .fld 2 (.t 4), (some (35, false))⟩, 21, [], false⟩,
 ⟨⟨(some 37), .load 1 false (.t 36), (some (35, false))⟩, 22, [], false⟩,
 ⟨⟨(some 38), .bin .gtr (.t 37) (.k (.int .i64 65535)), (some (35, false))⟩, 23, [], false⟩,
 ⟨⟨(some 39), .pick (.t 35) (.k (.bool true)) (.t 38), none⟩, 24, [], false⟩,
 ⟨⟨(some 40), .mov (.t 39), none⟩, 25, [], false⟩,
 ⟨⟨(some 41), .mov (.t 3), (some (40, false))⟩, 26, [], false⟩,
 ⟨⟨(some 42), .bin .gtr (.t 41) (.k (.int .i64 0)), (some (40, false))⟩, 27, [], false⟩,
 ⟨⟨(some 43), .mov (.t 42), (some (40, false))⟩, 28, [], false⟩,
 ⟨⟨(some 44), .fld 0 (.t 4), (some (43, true))⟩, 29, [], false⟩,
 ⟨⟨(some 45), .load 1 false (.t 44), (some (43, true))⟩, 30, [], false⟩,
 ⟨⟨(some 46), .mov (.t 0), (some (43, true))⟩, 31, [], false⟩,
 ⟨⟨(some 47), .mov (.t 3), (some (43, true))⟩, 32, [], false⟩,
 ⟨⟨(some 48), .bin .sub (.t 47) (.k (.int .i64 1)), (some (43, true))⟩, 33, [], false⟩,
 ⟨⟨(some 49), .idx 3 (.t 46) (.t 48), (some (43, true))⟩, 34, [], false⟩,
 ⟨⟨(some 50), .fld 1 (.t 49), (some (43, true))⟩, 35, [], false⟩,
 ⟨⟨(some 51), .load 1 false (.t 50), (some (43, true))⟩, 36, [], false⟩,
 ⟨⟨(some 52), .bin .leq (.t 45) (.t 51), (some (43, true))⟩, 37, [], false⟩,
 ⟨⟨(some 53), .mov (.t 52), (some (43, true))⟩, 38, [], false⟩,
 ⟨⟨(some 54), .fld 0 (.t 4), (some (53, false))⟩, 39, [], false⟩,
 ⟨⟨(some 55), .load 1 false (.t 54), (some (53, false))⟩, 40, [], false⟩,
 ⟨⟨(some 56), .mov (.t 0), (some (53, false))⟩, 41, [], false⟩,
 ⟨⟨(some 57), .mov (.t 3), (some (53, false))⟩, 42, [], false⟩,
 ⟨⟨(some 58), .bin .sub (.t 57) (.k (.int .i64 1)), (some (53, false))⟩, 43, [], false⟩,
 ⟨⟨(some 59), .idx 3 (.t 56) (.t 58), (some (53, false))⟩, 44, [], false⟩,
 ⟨⟨(some 60), .fld 1 (.t 59), (some (53, false))⟩, 45, [], false⟩,
 ⟨⟨(some 61), .load 1 false (.t 60), (some (53, false))⟩, 46, [], false⟩,
 ⟨⟨(some 62), .bin .add (.t 61) (.k (.int .i64 1)), (some (53, false))⟩, 47, [], false⟩,
 ⟨⟨(some 63), .bin .eql (.t 55) (.t 62), (some (53, false))⟩, 48, [], false⟩,
 ⟨⟨(some 64), .mov (.t 63), (some (53, false))⟩, 49, [], false⟩,
 ⟨⟨(some 65), .fld 2 (.t 4), (some (64, true))⟩, 50, [], false⟩,
 ⟨⟨(some 66), .load 1 false (.t 65), (some (64, true))⟩, 51, [], false⟩,
 ⟨⟨(some 67), .mov (.t 0), (some (64, true))⟩, 52, [], false⟩,
 ⟨⟨(some 68), .mov (.t 3), (some (64, true))⟩, 53, [], false⟩,
 ⟨⟨(some 69), .bin .sub (.t 68) (.k (.int .i64 1)), (some (64, true))⟩, 54, [], false⟩,
 ⟨⟨(some 70), .idx 3 (.t 67) (.t 69), (some (64, true))⟩, 55, [], false⟩,
 ⟨⟨(some 71), .fld 2 (.t 70), (some (64, true))⟩, 56, [], false⟩,
 ⟨⟨(some 72), .load 1 false (.t 71), (some (64, true))⟩, 57, [], false⟩,
 ⟨⟨(some 73), .bin .eql (.t 66) (.t 72), (some (64, true))⟩, 58, [], false⟩,
 ⟨⟨(some 74), .pick (.t 64) (.t 73) (.k (.bool false)), (some (53, false))⟩, 59, [], false⟩,
 ⟨⟨(some 75), .pick (.t 53) (.k (.bool true)) (.t 74), (some (43, true))⟩, 60, [], false⟩,
 ⟨⟨(some 76), .pick (.t 43) (.t 75) (.k (.bool false)), (some (40, false))⟩, 61, [], false⟩,
 ⟨⟨(some 77), .pick (.t 40) (.k (.bool true)) (.t 76), none⟩, 62, [], false⟩])
 (.cond (.t 77)
 (.seq
 (.reg [
 ⟨(some 2), .mov (.k (.bool false)), none⟩])
 .ret)
 .skip))))
 (.reg [
 ⟨(some 9), .mov (.t 3), none⟩,
 ⟨(some 10), .bin .add (.t 9) (.k (.int .i64 1)), none⟩,
 ⟨(some 3), .mov (.t 10), none⟩]))))))
 (.seq
 (.reg [
 ⟨(some 78), .mov (.t 0), none⟩,
 ⟨(some 79), .len false (.t 78), none⟩,
 ⟨(some 80), .bin .leq (.t 79) (.k (.int .i64 5000)), none⟩,
 ⟨(some 2), .mov (.t 80), none⟩])
 .ret)))
theorem a25 : Go.Proofs.Try.f25.body.bind (comp Go.Proofs.Try.prog) = some A25 := by kernel_rfl
theorem r25 : compRVs Go.Proofs.Try.prog Go.Proofs.Try.f25.results.toList = some [.tmp 2] := by kernel_rfl
theorem n25 : (Go.Proofs.Try.f25.name == "runtime.NumGoroutine") = false := by decide +kernel
def E25 : Nat × ACode × Nat × List RV := (25, A25, 81, [.tmp 2])
theorem e25 : EntryOk Go.Proofs.Try.prog E25 := ⟨Go.Proofs.Try.f25, Go.Proofs.Try.func25, n25, a25, Go.Proofs.Try.ntmps25, r25⟩
/-! reedpen/reedpenref10.Index -/
def A27 : ACode :=
 (.seq
 (.reg [
 ⟨(some 4), .mov (.k (.int .i64 0)), none⟩])
 (.seq
 (.reg [
 ⟨(some 5), .mov (.k (.int .i64 0)), none⟩])
 (.seq
 (.reg [
 ⟨(some 6), .mov (.k (.int .i64 (-1))), none⟩])
 (.seq
 (.seq
 (.reg [
 ⟨(some 7), .mov (.k (.int .i64 0)), none⟩])
 (.block 0
 (.loop
 (.seq
 (.seq
 (.reg [
 ⟨(some 8), .mov (.t 7), none⟩,
 ⟨(some 9), .mov (.t 0), none⟩,
 ⟨(some 10), .len false (.t 9), none⟩,
 ⟨(some 11), .bin .lss (.t 8) (.t 10), none⟩])
 (.cond (.t 11)
 .skip
 (.exit 0)))
 (.seq
 (.block 1
 (.seq
 (.seq
 (.reg [
 ⟨(some 14), .mov (.t 0), none⟩,
 ⟨(some 15), .mov (.t 7), none⟩,
 ⟨(some 16), .idx 2 (.t 14) (.t 15), none⟩,
 ⟨(some 17), .fld 0 (.t 16), none⟩,
 ⟨(some 18), .load 1 false (.t 17), none⟩,
 ⟨(some 19), .mov (.t 1), none⟩,
 ⟨(some 20), .bin .leq (.t 18) (.t 19), none⟩,
 ⟨(some 21), .mov (.t 20), none⟩,
 ⟨(some 22), .mov (.t 1), (some (21, true))⟩,
 ⟨(some 23), .mov (.t 0), (some (21, true))⟩,
 ⟨(some 24), .mov (.t 7), (some (21, true))⟩,
 ⟨(some 25), .idx 2 (.t 23) (.t 24), (some (21, true))⟩,
 ⟨(some 26), .fld 1 (.t 25), (some (21, true))⟩,
 ⟨(some 27), .load 1 false (.t 26), (some (21, true))⟩,
 ⟨(some 28), .bin .leq (.t 22) (.t 27), (some (21, true))⟩,
 ⟨(some 29), .pick (.t 21) (.t 28) (.k (.bool false)), none⟩])
 (.cond (.t 29)
 (.reg [
 ⟨(some 30), .mov (.t 5), none⟩,
 ⟨(some 31), .mov (.t 1), none⟩,
 ⟨(some 32), .bin .add (.t 30) (.t 31), none⟩,
 ⟨(some 33), .mov (.t 0), none⟩,
 ⟨(some 34), .mov (.t 7), none⟩,
 ⟨(some 35), .idx 2 (.t 33) (.t 34), none⟩,
 ⟨(some 36), .fld 0 (.t 35), none⟩,
 ⟨(some 37), .load 1 false (.t 36), none⟩,
 ⟨(some 38), .bin .sub (.t 32) (.t 37), none⟩,
 ⟨(some 6), .mov (.t 38), none⟩])
 .skip))
 (.regd [
 ⟨⟨(some 39), .mov (.t 5), none⟩, 0, [], false⟩,
 ⟨⟨(some 40), .mov (.t 0), none⟩, 1, [], false⟩,
 ⟨⟨(some 41), .mov (.t 7), none⟩, 2, [], false⟩,
 ⟨⟨(some 42), .idx 2 (.t 40) (.t 41), none⟩, 3, [], false⟩,
 ⟨⟨(some 43), .fld 1 (.t 42), none⟩, 4, [], false⟩,
 ⟨⟨(some 44), .load 1 false (.t 43), none⟩, 5, [], false⟩,
 ⟨⟨(some 45), .bin .add (.t 39) (.t 44), none⟩, 6, [], false⟩,
 ⟨⟨(some 46), .mov (.t 0), none⟩, 7, [], false⟩,
 ⟨⟨(some 47), .mov (.t 7), none⟩, 8, [], false⟩,
 ⟨⟨(some 48), .idx 2 (.t 46) (.t 47), none⟩, 9, [], false⟩,
 ⟨⟨(some 49), .fld 0 (.t 48), none⟩, 10, [], false⟩,
 ⟨⟨(some 50), .load 1 false (.t 49), none⟩, 11, [], false⟩,
 ⟨⟨(some 51), .bin .sub (.t 45) (.t 50), none⟩, 12, [], false⟩,
 ⟨⟨(some 52), .bin .add (.t 51) (.k (.int .i64 1)), none⟩, 13, [], false⟩,
 ⟨⟨(some 5), .mov (.t 52), none⟩, 14, [], false⟩])))
 (.reg [
 ⟨(some 12), .mov (.t 7), none⟩,
 ⟨(some 13), .bin .add (.t 12) (.k (.int .i64 1)), none⟩,
 ⟨(some 7), .mov (.t 13), none⟩]))))))
 (.seq
 (.reg [
 ⟨(some 53), .mov (.t 6), none⟩,
 ⟨(some 4), .mov (.t 53), none⟩])
 .ret)))))
theorem a27 : Go.Proofs.Try.f27.body.bind (comp Go.Proofs.Try.prog) = some A27 := by kernel_rfl
theorem r27 : compRVs Go.Proofs.Try.prog Go.Proofs.Try.f27.results.toList = some [.tmp 4] := by kernel_rfl
theorem n27 : (Go.Proofs.Try.f27.name == "runtime.NumGoroutine") = false := by decide +kernel
def E27 : Nat × ACode × Nat × List RV := (27, A27, 54, [.tmp 4])
theorem e27 : EntryOk Go.Proofs.Try.prog E27 := ⟨Go.Proofs.Try.f27, Go.Proofs.Try.func27, n27, a27, Go.Proofs.Try.ntmps27, r27⟩
/-! reedpen/reedpenref10.Of -/
def A30 : ACode :=
 (.seq
 (.reg [
 ⟨(some 4), .mov (.k (.int .i64 0)), none⟩])
 (.seq
 (.seq
 (.reg [
 ⟨(some 5), .mov (.k (.int .i64 0)), none⟩])
 (.block 0
 (.loop
 (.seq
 (.seq
 (.reg [
 ⟨(some 6), .mov (.t 5), none⟩,
 ⟨(some 7), .mov (.t 0), none⟩,
 ⟨(some 8), .len false (.t 7), none⟩,
 ⟨(some 9), .bin .lss (.t 6) (.t 8), none⟩])
 (.cond (.t 9)
 .skip
 (.exit 0)))
 (.seq
 (.block 1
 (.seq
 (.reg [
 ⟨(some 12), .mov (.t 0), none⟩,
 ⟨(some 13), .mov (.t 5), none⟩,
 ⟨(some 14), .idx 3 (.t 12) (.t 13), none⟩,
 ⟨(some 15), .fld 0 (.t 14), none⟩,
 ⟨(some 16), .load 1 false (.t 15), none⟩,
 ⟨(some 17), .mov (.t 1), none⟩,
 ⟨(some 18), .bin .leq (.t 16) (.t 17), none⟩,
 ⟨(some 19), .mov (.t 18), none⟩,
 ⟨(some 20), .mov (.t 1), (some (19, true))⟩,
 ⟨(some 21), .mov (.t 0), (some (19, true))⟩,
 ⟨(some 22), .mov (.t 5), (some (19, true))⟩,
 ⟨(some 23), .idx 3 (.t 21) (.t 22), (some (19, true))⟩,
 ⟨(some 24), .fld 1 (.t 23), (some (19, true))⟩,
 ⟨(some 25), .load 1 false (.t 24), (some (19, true))⟩,
 ⟨(some 26), .bin .leq (.t 20) (.t 25), (some (19, true))⟩,
 ⟨(some 27), .pick (.t 19) (.t 26) (.k (.bool false)), none⟩])
 (.cond (.t 27)
 (.seq
 (.reg [
 ⟨(some 28), .mov (.t 0), none⟩,
 ⟨(some 29), .mov (.t 5), none⟩,
 ⟨(some 30), .idx 3 (.t 28) (.t 29), none⟩,
 ⟨(some 31), .fld 2 (.t 30), none⟩,
 ⟨(some 32), .load 1 false (.t 31), none⟩,
 ⟨(some 4), .mov (.t 32), none⟩])
 .ret)
 .skip)))
 (.reg [
 ⟨(some 10), .mov (.t 5), none⟩,
 ⟨(some 11), .bin .add (.t 10) (.k (.int .i64 1)), none⟩,
 ⟨(some 5), .mov (.t 11), none⟩]))))))
 (.seq
 (.reg [
 ⟨(some 4), .mov (.k (.int .i64 0)), none⟩])
 .ret)))
theorem a30 : Go.Proofs.Try.f30.body.bind (comp Go.Proofs.Try.prog) = some A30 := by kernel_rfl
theorem r30 : compRVs Go.Proofs.Try.prog Go.Proofs.Try.f30.results.toList = some [.tmp 4] := by kernel_rfl
theorem n30 : (Go.Proofs.Try.f30.name == "runtime.NumGoroutine") = false := by decide +kernel
def E30 : Nat × ACode × Nat × List RV := (30, A30, 33, [.tmp 4])
theorem e30 : EntryOk Go.Proofs.Try.prog E30 := ⟨Go.Proofs.Try.f30, Go.Proofs.Try.func30, n30, a30, Go.Proofs.Try.ntmps30, r30⟩
/-! reedpen/reedpenref10.Has -/
def A32 : ACode :=
 (.seq
 (.reg [
 ⟨(some 2), .box (.t 0) 36, none⟩,
 ⟨(some 4), .mov (.k (.bool false)), none⟩])
 (.seq
 (.reg [
 ⟨(some 5), .mov (.k (.bool false)), none⟩])
 (.seq
 (.seq
 (.reg [
 ⟨(some 6), .mov (.k (.int .i64 0)), none⟩])
 (.block 0
 (.loop
 (.seq
 (.seq
 (.reg [
 ⟨(some 7), .mov (.t 6), none⟩,
 ⟨(some 8), .fld 0 (.t 2), none⟩,
 ⟨(some 9), .load 1 false (.t 8), none⟩,
 ⟨(some 10), .len false (.t 9), none⟩,
 ⟨(some 11), .bin .lss (.t 7) (.t 10), none⟩])
 (.cond (.t 11)
 .skip
 (.exit 0)))
 (.seq
 (.block 1
 (.reg [
 ⟨(some 14), .mov (.t 5), none⟩,
 ⟨(some 15), .mov (.t 14), none⟩,
 ⟨(some 16), .fld 0 (.t 2), (some (15, false))⟩,
 ⟨(some 17), .load 1 false (.t 16), (some (15, false))⟩,
 ⟨(some 18), .mov (.t 6), (some (15, false))⟩,
 ⟨(some 19), .idx 2 (.t 17) (.t 18), (some (15, false))⟩,
 ⟨(some 20), .fld 0 (.t 19), (some (15, false))⟩,
 ⟨(some 21), .load 1 false (.t 20), (some (15, false))⟩,
 ⟨(some 22), .mov (.t 1), (some (15, false))⟩,
 ⟨(some 23), .bin .leq (.t 21) (.t 22), (some (15, false))⟩,
 ⟨(some 24), .mov (.t 23), (some (15, false))⟩,
 ⟨(some 25), .mov (.t 1), (some (24, true))⟩,
 ⟨(some 26), .fld 0 (.t 2), (some (24, true))⟩,
 ⟨(some 27), .load 1 false (.t 26), (some (24, true))⟩,
 ⟨(some 28), .mov (.t 6), (some (24, true))⟩,
 ⟨(some 29), .idx 2 (.t 27) (.t 28), (some (24, true))⟩,
 ⟨(some 30), .fld 1 (.t 29), (some (24, true))⟩,
 ⟨(some 31), .load 1 false (.t 30), (some (24, true))⟩,
 ⟨(some 32), .bin .leq (.t 25) (.t 31), (some (24, true))⟩,
 ⟨(some 33), .pick (.t 24) (.t 32) (.k (.bool false)), (some (15, false))⟩,
 ⟨(some 34), .pick (.t 15) (.k (.bool true)) (.t 33), none⟩,
 ⟨(some 5), .mov (.t 34), none⟩]))
 (.reg [
 ⟨(some 12), .mov (.t 6), none⟩,
 ⟨(some 13), .bin .add (.t 12) (.k (.int .i64 1)), none⟩,
 ⟨(some 6), .mov (.t 13), none⟩]))))))
 (.seq
 (.reg [
 ⟨(some 35), .mov (.t 5), none⟩,
 ⟨(some 36), .fld 1 (.t 2), none⟩,
 ⟨(some 37), .load 1 false (.t 36), none⟩,
 ⟨(some 38), .eqb true (.t 35) (.t 37), none⟩,
 ⟨(some 4), .mov (.t 38), none⟩])
 .ret))))
theorem a32 : Go.Proofs.Try.f32.body.bind (comp Go.Proofs.Try.prog) = some A32 := by kernel_rfl
theorem r32 : compRVs Go.Proofs.Try.prog Go.Proofs.Try.f32.results.toList = some [.tmp 4] := by kernel_rfl
theorem n32 : (Go.Proofs.Try.f32.name == "runtime.NumGoroutine") = false := by decide +kernel
def E32 : Nat × ACode × Nat × List RV := (32, A32, 39, [.tmp 4])
theorem e32 : EntryOk Go.Proofs.Try.prog E32 := ⟨Go.Proofs.Try.f32, Go.Proofs.Try.func32, n32, a32, Go.Proofs.Try.ntmps32, r32⟩
/-! reedpen/reedpenref10.Spans -/
def A35 : ACode :=
 (.seq
 (.reg [
 ⟨(some 2), .mov (.k (.vec true [])), none⟩])
 (.seq
 (.reg [
 ⟨(some 3), .mov (.k (.vec true [])), none⟩])
 (.seq
 (.seq
 (.reg [
 ⟨(some 4), .mov (.k (.int .i64 0)), none⟩])
 (.block 0
 (.loop
 (.seq
 (.seq
 (.reg [
 ⟨(some 6), .mov (.t 4), none⟩,
 ⟨(some 7), .mov (.t 0), none⟩,
 ⟨(some 8), .len false (.t 7), none⟩,
 ⟨(some 9), .bin .lss (.t 6) (.t 8), none⟩])
 (.cond (.t 9)
 .skip
 (.exit 0)))
 (.seq
 (.block 1
 (.seq
 (.seq
 (.reg [
 ⟨(some 12), .mov (.t 0), none⟩,
 ⟨(some 13), .mov (.t 4), none⟩,
 ⟨(some 14), .idx 1 (.t 12) (.t 13), none⟩,
 ⟨(some 15), .load 1 false (.t 14), none⟩,
 ⟨(some 16), .un .not (.t 15), none⟩])
 (.cond (.t 16)
 (.exit 1)
 .skip))
 (.seq
 (.reg [
 ⟨(some 17), .mov (.t 4), none⟩,
 ⟨(some 5), .mov (.t 17), none⟩])
 (.seq
 (.block 2
 (.loop
 (.seq
 (.seq
 (.reg [
 ⟨(some 18), .mov (.t 5), none⟩,
 ⟨(some 19), .bin .add (.t 18) (.k (.int .i64 1)), none⟩,
 ⟨(some 20), .mov (.t 0), none⟩,
 ⟨(some 21), .len false (.t 20), none⟩,
 ⟨(some 22), .bin .lss (.t 19) (.t 21), none⟩,
 ⟨(some 23), .mov (.t 22), none⟩,
 ⟨(some 24), .mov (.t 0), (some (23, true))⟩,
 ⟨(some 25), .mov (.t 5), (some (23, true))⟩,
 ⟨(some 26), .bin .add (.t 25) (.k (.int .i64 1)), (some (23, true))⟩,
 ⟨(some 27), .idx 1 (.t 24) (.t 26), (some (23, true))⟩,
 ⟨(some 28), .load 1 false (.t 27), (some (23, true))⟩,
 ⟨(some 29), .pick (.t 23) (.t 28) (.k (.bool false)), none⟩])
 (.cond (.t 29)
 .skip
 (.exit 2)))
 (.block 3
 (.reg [
 ⟨(some 30), .mov (.t 5), none⟩,
 ⟨(some 31), .bin .add (.t 30) (.k (.int .i64 1)), none⟩,
 ⟨(some 5), .mov (.t 31), none⟩])))))
 (.seq
 (.reg [
 ⟨(some 32), .mov (.t 3), none⟩,
 ⟨(some 33), .mov (.t 4), none⟩,
 ⟨(some 34), .mov (.t 5), none⟩,
 ⟨(some 35), .build [(.int .i64 0), (.int .i64 0)] [(0, 1, (.t 33)), (1, 1, (.t 34))], none⟩,
 ⟨(some 36), .lits 2 38 [(.t 35)], none⟩,
 ⟨(some 37), .app 2 16 38 (.t 32) (.t 36), none⟩,
 ⟨(some 3), .mov (.t 37), none⟩])
 (.reg [
 ⟨(some 38), .mov (.t 5), none⟩,
 ⟨(some 4), .mov (.t 38), none⟩]))))))
 (.reg [
 ⟨(some 10), .mov (.t 4), none⟩,
 ⟨(some 11), .bin .add (.t 10) (.k (.int .i64 1)), none⟩,
 ⟨(some 4), .mov (.t 11), none⟩]))))))
 (.seq
 (.reg [
 ⟨(some 39), .mov (.t 3), none⟩,
 ⟨(some 2), .mov (.t 39), none⟩])
 .ret))))
theorem a35 : Go.Proofs.Try.f35.body.bind (comp Go.Proofs.Try.prog) = some A35 := by kernel_rfl
theorem r35 : compRVs Go.Proofs.Try.prog Go.Proofs.Try.f35.results.toList = some [.tmp 2] := by kernel_rfl
theorem n35 : (Go.Proofs.Try.f35.name == "runtime.NumGoroutine") = false := by decide +kernel
def E35 : Nat × ACode × Nat × List RV := (35, A35, 40, [.tmp 2])
theorem e35 : EntryOk Go.Proofs.Try.prog E35 := ⟨Go.Proofs.Try.f35, Go.Proofs.Try.func35, n35, a35, Go.Proofs.Try.ntmps35, r35⟩
/-! reedpen/reedpenref10.Table -/
def A56 : ACode :=
 (.seq
 (.reg [
 ⟨(some 6), .mov (.k (.vec true [])), none⟩,
 ⟨(some 7), .mov (.k (.bool false)), none⟩])
 (.seq
 (.reg [
 ⟨(some 23), .mksl 1 8 [(.int .i64 0)] 3 (.k (.int .i64 65536)), none⟩,
 ⟨(some 8), .mov (.t 23), none⟩])
 (.seq
 (.seq
 (.reg [
 ⟨(some 9), .mov (.k (.int .i64 0)), none⟩])
 (.block 0
 (.loop
 (.seq
 (.seq
 (.reg [
 ⟨(some 24), .mov (.t 9), none⟩,
 ⟨(some 25), .bin .lss (.t 24) (.k (.int .i64 65536)), none⟩])
 (.cond (.t 25)
 .skip
 (.exit 0)))
 (.seq
 (.block 1
 (.reg [
 ⟨(some 28), .mov (.t 8), none⟩,
 ⟨(some 29), .mov (.t 9), none⟩,
 ⟨(some 30), .idx 1 (.t 28) (.t 29), none⟩,
 ⟨none, .store 1 (.t 30) (.k (.int .i64 (-1))), none⟩]))
 (.reg [
 ⟨(some 26), .mov (.t 9), none⟩,
 ⟨(some 27), .bin .add (.t 26) (.k (.int .i64 1)), none⟩,
 ⟨(some 9), .mov (.t 27), none⟩]))))))
 (.seq
 (.reg [
 ⟨(some 31), .mov (.t 0), none⟩,
 ⟨(some 32), .mov (.t 1), none⟩,
 ⟨(some 33), .call 64 [(.t 31), (.t 32)], none⟩,
 ⟨(some 10), .mov (.t 33), none⟩])
 (.seq
 (.seq
 (.reg [
 ⟨(some 34), .mov (.t 10), none⟩,
 ⟨(some 35), .bin .neq (.t 34) (.k (.int .i64 1)), none⟩,
 ⟨(some 36), .mov (.t 35), none⟩,
 ⟨(some 37), .mov (.t 10), (some (36, true))⟩,
 ⟨(some 38), .bin .neq (.t 37) (.k (.int .i64 2)), (some (36, true))⟩,
 ⟨(some 39), .pick (.t 36) (.t 38) (.k (.bool false)), none⟩])
 (.cond (.t 39)
 (.seq
 (.reg [
 ⟨(some 40), .mov (.t 8), none⟩,
 ⟨(some 6), .mov (.t 40), none⟩,
 ⟨(some 7), .mov (.k (.bool false)), none⟩])
 .ret)
 .skip))
 (.seq
 (.reg [
 ⟨(some 41), .mov (.t 0), none⟩,
 ⟨(some 42), .mov (.t 1), none⟩,
 ⟨(some 43), .bin .add (.t 42) (.k (.int .i64 2)), none⟩,
 ⟨(some 44), .call 64 [(.t 41), (.t 43)], none⟩,
 ⟨(some 11), .mov (.t 44), none⟩])
 (.seq
 (.reg [
 ⟨(some 12), .mov (.k (.int .i64 0)), none⟩])
 (.seq
 (.reg [
 ⟨(some 13), .mov (.k (.int .i64 (-1))), none⟩])
 (.seq
 (.seq
 (.reg [
 ⟨(some 45), .mov (.t 10), none⟩,
 ⟨(some 46), .bin .eql (.t 45) (.k (.int .i64 1)), none⟩,
 ⟨(some 47), .mov (.t 46), none⟩,
 ⟨(some 48), .mov (.t 2), (some (47, true))⟩,
 ⟨(some 49), .pick (.t 47) (.t 48) (.k (.bool false)), none⟩])
 (.cond (.t 49)
 (.seq
 (.reg [
 ⟨(some 50), .mov (.t 11), none⟩,
 ⟨(some 14), .mov (.t 50), none⟩])
 (.seq
 (.reg [
 ⟨(some 51), .mov (.t 0), none⟩,
 ⟨(some 52), .mov (.t 1), none⟩,
 ⟨(some 53), .bin .add (.t 52) (.k (.int .i64 4)), none⟩,
 ⟨(some 54), .call 64 [(.t 51), (.t 53)], none⟩,
 ⟨(some 11), .mov (.t 54), none⟩])
 (.seq
 (.seq
 (.reg [
 ⟨(some 55), .mov (.t 11), none⟩,
 ⟨(some 56), .bin .lss (.t 55) (.k (.int .i64 0)), none⟩,
 ⟨(some 57), .mov (.t 56), none⟩,
 ⟨(some 58), .mov (.t 14), (some (57, false))⟩,
 ⟨(some 59), .mov (.t 11), (some (57, false))⟩,
 ⟨(some 60), .bin .add (.t 58) (.t 59), (some (57, false))⟩,
 ⟨(some 61), .bin .gtr (.t 60) (.k (.int .i64 65536)), (some (57, false))⟩,
 ⟨(some 62), .pick (.t 57) (.k (.bool true)) (.t 61), none⟩])
 (.cond (.t 62)
 (.seq
 (.reg [
 ⟨(some 63), .mov (.t 8), none⟩,
 ⟨(some 6), .mov (.t 63), none⟩,
 ⟨(some 7), .mov (.k (.bool false)), none⟩])
 .ret)
 .skip))
 (.seq
 (.seq
 (.reg [
 ⟨(some 15), .mov (.k (.int .i64 0)), none⟩])
 (.block 2
 (.loop
 (.seq
 (.seq
 (.reg [
 ⟨(some 64), .mov (.t 15), none⟩,
 ⟨(some 65), .mov (.t 11), none⟩,
 ⟨(some 66), .bin .lss (.t 64) (.t 65), none⟩])
 (.cond (.t 66)
 .skip
 (.exit 2)))
 (.seq
 (.block 3
 (.seq
 (.reg [
 ⟨(some 69), .mov (.t 0), none⟩,
 ⟨(some 70), .mov (.t 1), none⟩,
 ⟨(some 71), .bin .add (.t 70) (.k (.int .i64 6)), none⟩,
 ⟨(some 72), .mov (.t 15), none⟩,
 ⟨(some 73), .bin .mul (.k (.int .i64 2)) (.t 72), none⟩,
 ⟨(some 74), .bin .add (.t 71) (.t 73), none⟩,
 ⟨(some 75), .call 64 [(.t 69), (.t 74)], none⟩,
 ⟨(some 16), .mov (.t 75), none⟩])
 (.seq
 (.seq
 (.reg [
 ⟨(some 76), .mov (.t 16), none⟩,
 ⟨(some 77), .bin .lss (.t 76) (.k (.int .i64 0)), none⟩])
 (.cond (.t 77)
 (.seq
 (.reg [
 ⟨(some 78), .mov (.t 8), none⟩,
 ⟨(some 6), .mov (.t 78), none⟩,
 ⟨(some 7), .mov (.k (.bool false)), none⟩])
 .ret)
 .skip))
 (.reg [
 ⟨(some 79), .mov (.t 8), none⟩,
 ⟨(some 80), .mov (.t 14), none⟩,
 ⟨(some 81), .mov (.t 15), none⟩,
 ⟨(some 82), .bin .add (.t 80) (.t 81), none⟩,
 ⟨(some 83), .mov (.t 16), none⟩,
 ⟨(some 84), .idx 1 (.t 79) (.t 82), none⟩,
 ⟨none, .store 1 (.t 84) (.t 83), none⟩]))))
 (.reg [
 ⟨(some 67), .mov (.t 15), none⟩,
 ⟨(some 68), .bin .add (.t 67) (.k (.int .i64 1)), none⟩,
 ⟨(some 15), .mov (.t 68), none⟩]))))))
 (.seq
 (.reg [
 ⟨(some 85), .mov (.t 8), none⟩,
 ⟨(some 6), .mov (.t 85), none⟩,
 ⟨(some 7), .mov (.k (.bool true)), none⟩])
 .ret)))))
 .skip))
 (.seq
 (.seq
 (.reg [
 ⟨(some 86), .mov (.t 11), none⟩,
 ⟨(some 87), .bin .lss (.t 86) (.k (.int .i64 0)), none⟩])
 (.cond (.t 87)
 (.seq
 (.reg [
 ⟨(some 88), .mov (.t 8), none⟩,
 ⟨(some 6), .mov (.t 88), none⟩,
 ⟨(some 7), .mov (.k (.bool false)), none⟩])
 .ret)
 .skip))
 (.seq
 (.seq
 (.reg [
 ⟨(some 17), .mov (.k (.int .i64 0)), none⟩])
 (.block 4
 (.loop
 (.seq
 (.seq
 (.reg [
 ⟨(some 89), .mov (.t 17), none⟩,
 ⟨(some 90), .mov (.t 11), none⟩,
 ⟨(some 91), .bin .lss (.t 89) (.t 90), none⟩])
 (.cond (.t 91)
 .skip
 (.exit 4)))
 (.seq
 (.block 5
 (.seq
 (.seq
 (.reg [
 ⟨(some 94), .mov (.t 10), none⟩,
 ⟨(some 95), .bin .eql (.t 94) (.k (.int .i64 1)), none⟩])
 (.cond (.t 95)
 (.seq
 (.reg [
 ⟨(some 96), .mov (.t 0), none⟩,
 ⟨(some 97), .mov (.t 1), none⟩,
 ⟨(some 98), .bin .add (.t 97) (.k (.int .i64 4)), none⟩,
 ⟨(some 99), .mov (.t 17), none⟩,
 ⟨(some 100), .bin .mul (.k (.int .i64 2)) (.t 99), none⟩,
 ⟨(some 101), .bin .add (.t 98) (.t 100), none⟩,
 ⟨(some 102), .call 64 [(.t 96), (.t 101)], none⟩,
 ⟨(some 18), .mov (.t 102), none⟩])
 (.seq
 (.seq
 (.reg [
 ⟨(some 103), .mov (.t 18), none⟩,
 ⟨(some 104), .mov (.t 13), none⟩,
 ⟨(some 105), .bin .leq (.t 103) (.t 104), none⟩])
 (.cond (.t 105)
 (.seq
 (.reg [
 ⟨(some 106), .mov (.t 8), none⟩,
 ⟨(some 6), .mov (.t 106), none⟩,
 ⟨(some 7), .mov (.k (.bool false)), none⟩])
 .ret)
 .skip))
 (.seq
 (.reg [
 ⟨(some 107), .mov (.t 8), none⟩,
 ⟨(some 108), .mov (.t 18), none⟩,
 ⟨(some 109), .mov (.t 17), none⟩,
 ⟨(some 110), .idx 1 (.t 107) (.t 108), none⟩,
 ⟨none, .store 1 (.t 110) (.t 109), none⟩])
 (.seq
 (.reg [
 ⟨(some 111), .mov (.t 18), none⟩,
 ⟨(some 13), .mov (.t 111), none⟩])
 (.exit 5)))))
 .skip))
 (.seq
 (.reg [
 ⟨(some 112), .mov (.t 0), none⟩,
 ⟨(some 113), .mov (.t 1), none⟩,
 ⟨(some 114), .bin .add (.t 113) (.k (.int .i64 4)), none⟩,
 ⟨(some 115), .mov (.t 17), none⟩,
 ⟨(some 116), .bin .mul (.k (.int .i64 6)) (.t 115), none⟩,
 ⟨(some 117), .bin .add (.t 114) (.t 116), none⟩,
 ⟨(some 118), .call 64 [(.t 112), (.t 117)], none⟩,
 ⟨(some 119), .mov (.t 0), none⟩,
 ⟨(some 120), .mov (.t 1), none⟩,
 ⟨(some 121), .bin .add (.t 120) (.k (.int .i64 6)), none⟩,
 ⟨(some 122), .mov (.t 17), none⟩,
 ⟨(some 123), .bin .mul (.k (.int .i64 6)) (.t 122), none⟩,
 ⟨(some 124), .bin .add (.t 121) (.t 123), none⟩,
 ⟨(some 125), .call 64 [(.t 119), (.t 124)], none⟩,
 ⟨(some 126), .mov (.t 0), none⟩,
 ⟨(some 127), .mov (.t 1), none⟩,
 ⟨(some 128), .bin .add (.t 127) (.k (.int .i64 8)), none⟩,
 ⟨(some 129), .mov (.t 17), none⟩,
 ⟨(some 130), .bin .mul (.k (.int .i64 6)) (.t 129), none⟩,
 ⟨(some 131), .bin .add (.t 128) (.t 130), none⟩,
 ⟨(some 132), .call 64 [(.t 126), (.t 131)], none⟩,
 ⟨(some 19), .mov (.t 118), none⟩,
 ⟨(some 20), .mov (.t 125), none⟩,
 ⟨(some 21), .mov (.t 132), none⟩])
 (.seq
 (.seq
 (.reg [
 ⟨(some 133), .mov (.t 21), none⟩,
 ⟨(some 134), .bin .lss (.t 133) (.k (.int .i64 0)), none⟩,
 ⟨(some 135), .mov (.t 134), none⟩,
 ⟨(some 136), .mov (.t 19), (some (135, false))⟩,
 ⟨(some 137), .mov (.t 13), (some (135, false))⟩,
 ⟨(some 138), .bin .leq (.t 136) (.t 137), (some (135, false))⟩,
 ⟨(some 139), .pick (.t 135) (.k (.bool true)) (.t 138), none⟩,
 ⟨(some 140), .mov (.t 139), none⟩,
 ⟨(some 141), .mov (.t 20), (some (140, false))⟩,
 ⟨(some 142), .mov (.t 19), (some (140, false))⟩,
 ⟨(some 143), .bin .lss (.t 141) (.t 142), (some (140, false))⟩,
 ⟨(some 144), .pick (.t 140) (.k (.bool true)) (.t 143), none⟩,
 ⟨(some 145), .mov (.t 144), none⟩,
 ⟨(some 146), .mov (.t 2), (some (145, false))⟩,
 ⟨(some 147), .un .not (.t 146), (some (145, false))⟩,
 ⟨(some 148), .mov (.t 147), (some (145, false))⟩,
 ⟨(some 149), .mov (.t 21), (some (148, true))⟩,
 ⟨(some 150), .mov (.t 12), (some (148, true))⟩,
 ⟨(some 151), .bin .neq (.t 149) (.t 150), (some (148, true))⟩,
 ⟨(some 152), .pick (.t 148) (.t 151) (.k (.bool false)), (some (145, false))⟩,
 ⟨(some 153), .pick (.t 145) (.k (.bool true)) (.t 152), none⟩])
 (.cond (.t 153)
 (.seq
 (.reg [
 ⟨(some 154), .mov (.t 8), none⟩,
 ⟨(some 6), .mov (.t 154), none⟩,
 ⟨(some 7), .mov (.k (.bool false)), none⟩])
 .ret)
 .skip))
 (.seq
 (.reg [
 ⟨(some 155), .mov (.t 20), none⟩,
 ⟨(some 13), .mov (.t 155), none⟩])
 (.seq
 (.reg [
 ⟨(some 156), .mov (.t 19), none⟩,
 ⟨(some 22), .mov (.t 156), none⟩])
 (.block 6
 (.loop
 (.seq
 (.seq
 (.reg [
 ⟨(some 157), .mov (.t 22), none⟩,
 ⟨(some 158), .mov (.t 20), none⟩,
 ⟨(some 159), .bin .leq (.t 157) (.t 158), none⟩])
 (.cond (.t 159)
 .skip
 (.exit 6)))
 (.seq
 (.block 7
 (.seq
 (.reg [
 ⟨(some 162), .mov (.t 8), none⟩,
 ⟨(some 163), .mov (.t 22), none⟩,
 ⟨(some 164), .mov (.t 21), none⟩,
 ⟨(some 165), .idx 1 (.t 162) (.t 163), none⟩,
 ⟨none, .store 1 (.t 165) (.t 164), none⟩])
 (.seq
 (.seq
 (.reg [
 ⟨(some 166), .mov (.t 2), none⟩,
 ⟨(some 167), .un .not (.t 166), none⟩])
 (.cond (.t 167)
 (.reg [
 ⟨(some 168), .mov (.t 8), none⟩,
 ⟨(some 169), .mov (.t 22), none⟩,
 ⟨(some 170), .mov (.t 12), none⟩,
 ⟨(some 171), .idx 1 (.t 168) (.t 169), none⟩,
 ⟨none, .store 1 (.t 171) (.t 170), none⟩])
 .skip))
 (.reg [
 ⟨(some 172), .mov (.t 12), none⟩,
 ⟨(some 173), .bin .add (.t 172) (.k (.int .i64 1)), none⟩,
 ⟨(some 12), .mov (.t 173), none⟩]))))
 (.reg [
 ⟨(some 160), .mov (.t 22), none⟩,
 ⟨(some 161), .bin .add (.t 160) (.k (.int .i64 1)), none⟩,
 ⟨(some 22), .mov (.t 161), none⟩])))))))))))
 (.reg [
 ⟨(some 92), .mov (.t 17), none⟩,
 ⟨(some 93), .bin .add (.t 92) (.k (.int .i64 1)), none⟩,
 ⟨(some 17), .mov (.t 93), none⟩]))))))
 (.seq
 (.reg [
 ⟨(some 174), .mov (.t 8), none⟩,
 ⟨(some 6), .mov (.t 174), none⟩,
 ⟨(some 7), .mov (.k (.bool true)), none⟩])
 .ret))))))))))))
theorem a56 : Go.Proofs.Try.f56.body.bind (comp Go.Proofs.Try.prog) = some A56 := by kernel_rfl
theorem r56 : compRVs Go.Proofs.Try.prog Go.Proofs.Try.f56.results.toList = some [.tmp 6, .tmp 7] := by kernel_rfl
theorem n56 : (Go.Proofs.Try.f56.name == "runtime.NumGoroutine") = false := by decide +kernel
def E56 : Nat × ACode × Nat × List RV := (56, A56, 175, [.tmp 6, .tmp 7])
theorem e56 : EntryOk Go.Proofs.Try.prog E56 := ⟨Go.Proofs.Try.f56, Go.Proofs.Try.func56, n56, a56, Go.Proofs.Try.ntmps56, r56⟩
/-! reedpen/reedpenref10.U16 -/
def A64 : ACode :=
 (.seq
 (.reg [
 ⟨(some 4), .mov (.k (.int .i64 0)), none⟩])
 (.seq
 (.reg [
 ⟨(some 8), .mov (.t 0), none⟩,
 ⟨(some 9), .mov (.t 1), none⟩,
 ⟨(some 10), .call 86 [(.t 8), (.t 9), (.k (.int .i64 2))], none⟩,
 ⟨(some 7), .mov (.t 10), none⟩,
 ⟨(some 11), .ext 0 (.t 7), none⟩,
 ⟨(some 12), .ext 1 (.t 7), none⟩,
 ⟨(some 5), .mov (.t 11), none⟩,
 ⟨(some 6), .mov (.t 12), none⟩])
 (.seq
 (.seq
 (.reg [
 ⟨(some 13), .mov (.t 6), none⟩,
 ⟨(some 14), .un .not (.t 13), none⟩])
 (.cond (.t 14)
 (.seq
 (.reg [
 ⟨(some 4), .mov (.k (.int .i64 (-1))), none⟩])
 .ret)
 .skip))
 (.seq
 (.reg [
 ⟨(some 15), .mov (.t 5), none⟩,
 ⟨(some 4), .mov (.t 15), none⟩])
 .ret))))
theorem a64 : Go.Proofs.Try.f64.body.bind (comp Go.Proofs.Try.prog) = some A64 := by kernel_rfl
theorem r64 : compRVs Go.Proofs.Try.prog Go.Proofs.Try.f64.results.toList = some [.tmp 4] := by kernel_rfl
theorem n64 : (Go.Proofs.Try.f64.name == "runtime.NumGoroutine") = false := by decide +kernel
def E64 : Nat × ACode × Nat × List RV := (64, A64, 16, [.tmp 4])
theorem e64 : EntryOk Go.Proofs.Try.prog E64 := ⟨Go.Proofs.Try.f64, Go.Proofs.Try.func64, n64, a64, Go.Proofs.Try.ntmps64, r64⟩
/-! reedpen/reedpenref01.Number -/
def A86 : ACode :=
 (.seq
 (.reg [
 ⟨(some 6), .mov (.k (.int .i64 0)), none⟩,
 ⟨(some 7), .mov (.k (.bool false)), none⟩])
 (.seq
 (.seq
 (.reg [
 ⟨(some 10), .mov (.t 0), none⟩,
 ⟨(some 11), .len false (.t 10), none⟩,
 ⟨(some 12), .mov (.t 1), none⟩,
 ⟨(some 13), .mov (.t 2), none⟩,
 ⟨(some 14), .call 105 [(.t 11), (.t 12), (.t 13)], none⟩,
 ⟨(some 15), .un .not (.t 14), none⟩])
 (.cond (.t 15)
 (.seq
 (.reg [
 ⟨(some 6), .mov (.k (.int .i64 0)), none⟩,
 ⟨(some 7), .mov (.k (.bool false)), none⟩])
 .ret)
 .skip))
 (.seq
 (.reg [
 ⟨(some 8), .mov (.k (.int .i64 0)), none⟩])
 (.seq
 (.seq
 (.reg [
 ⟨(some 9), .mov (.k (.int .i64 0)), none⟩])
 (.block 0
 (.loop
 (.seq
 (.seq
 (.reg [
 ⟨(some 16), .mov (.t 9), none⟩,
 ⟨(some 17), .mov (.t 2), none⟩,
 ⟨(some 18), .bin .lss (.t 16) (.t 17), none⟩])
 (.cond (.t 18)
 .skip
 (.exit 0)))
 (.seq
 (.block 1
 (.reg [
 ⟨(some 21), .mov (.t 8), none⟩,
 ⟨(some 22), .bin .mul (.t 21) (.k (.int .i64 256)), none⟩,
 ⟨(some 23), .mov (.t 0), none⟩,
 ⟨(some 24), .mov (.t 1), none⟩,
 ⟨(some 25), .mov (.t 9), none⟩,
 ⟨(some 26), .bin .add (.t 24) (.t 25), none⟩,
 ⟨(some 27), .idx 1 (.t 23) (.t 26), none⟩,
 ⟨(some 28), .load 1 false (.t 27), none⟩,
 ⟨(some 29), .conv .i64 (.t 28), none⟩,
 ⟨(some 30), .bin .add (.t 22) (.t 29), none⟩,
 ⟨(some 8), .mov (.t 30), none⟩]))
 (.reg [
 ⟨(some 19), .mov (.t 9), none⟩,
 ⟨(some 20), .bin .add (.t 19) (.k (.int .i64 1)), none⟩,
 ⟨(some 9), .mov (.t 20), none⟩]))))))
 (.seq
 (.reg [
 ⟨(some 31), .mov (.t 8), none⟩,
 ⟨(some 6), .mov (.t 31), none⟩,
 ⟨(some 7), .mov (.k (.bool true)), none⟩])
 .ret)))))
theorem a86 : Go.Proofs.Try.f86.body.bind (comp Go.Proofs.Try.prog) = some A86 := by kernel_rfl
theorem r86 : compRVs Go.Proofs.Try.prog Go.Proofs.Try.f86.results.toList = some [.tmp 6, .tmp 7] := by kernel_rfl
theorem n86 : (Go.Proofs.Try.f86.name == "runtime.NumGoroutine") = false := by decide +kernel
def E86 : Nat × ACode × Nat × List RV := (86, A86, 32, [.tmp 6, .tmp 7])
theorem e86 : EntryOk Go.Proofs.Try.prog E86 := ⟨Go.Proofs.Try.f86, Go.Proofs.Try.func86, n86, a86, Go.Proofs.Try.ntmps86, r86⟩
/-! reedpen/reedpenref01.Within -/
def A105 : ACode :=
 (.seq
 (.reg [
 ⟨(some 6), .mov (.k (.bool false)), none⟩])
 (.seq
 (.reg [
 ⟨(some 7), .mov (.t 1), none⟩,
 ⟨(some 8), .bin .geq (.t 7) (.k (.int .i64 0)), none⟩,
 ⟨(some 9), .mov (.t 8), none⟩,
 ⟨(some 10), .mov (.t 2), (some (9, true))⟩,
 ⟨(some 11), .bin .geq (.t 10) (.k (.int .i64 0)), (some (9, true))⟩,
 ⟨(some 12), .pick (.t 9) (.t 11) (.k (.bool false)), none⟩,
 ⟨(some 13), .mov (.t 12), none⟩,
 ⟨(some 14), .mov (.t 1), (some (13, true))⟩,
 ⟨(some 15), .mov (.t 0), (some (13, true))⟩,
 ⟨(some 16), .bin .leq (.t 14) (.t 15), (some (13, true))⟩,
 ⟨(some 17), .pick (.t 13) (.t 16) (.k (.bool false)), none⟩,
 ⟨(some 18), .mov (.t 17), none⟩,
 ⟨(some 19), .mov (.t 2), (some (18, true))⟩,
 ⟨(some 20), .mov (.t 0), (some (18, true))⟩,
 ⟨(some 21), .mov (.t 1), (some (18, true))⟩,
 ⟨(some 22), .bin .sub (.t 20) (.t 21), (some (18, true))⟩,
 ⟨(some 23), .bin .leq (.t 19) (.t 22), (some (18, true))⟩,
 ⟨(some 24), .pick (.t 18) (.t 23) (.k (.bool false)), none⟩,
 ⟨(some 6), .mov (.t 24), none⟩])
 .ret))
theorem a105 : Go.Proofs.Try.f105.body.bind (comp Go.Proofs.Try.prog) = some A105 := by kernel_rfl
theorem r105 : compRVs Go.Proofs.Try.prog Go.Proofs.Try.f105.results.toList = some [.tmp 6] := by kernel_rfl
theorem n105 : (Go.Proofs.Try.f105.name == "runtime.NumGoroutine") = false := by decide +kernel
def E105 : Nat × ACode × Nat × List RV := (105, A105, 25, [.tmp 6])
theorem e105 : EntryOk Go.Proofs.Try.prog E105 := ⟨Go.Proofs.Try.f105, Go.Proofs.Try.func105, n105, a105, Go.Proofs.Try.ntmps105, r105⟩
end Go.Proofs.Ytakplhfiohjcmaa.AI
