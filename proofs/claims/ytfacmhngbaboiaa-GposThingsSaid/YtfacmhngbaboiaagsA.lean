/- Functions' code by sight: written by a program (gen.py) out of the translation; Lean checks it against the translation. -/
import Derived.Test.YtfacmhngbaboiaaA20
import Derived.Test.YtfacmhngbaboiaaProg
namespace Go.Proofs.Ytfacmhngbaboiaa.AI
/-! reedpen/reedpenlaw13.GposThings -/
def A7 : ACode :=
 (.seq
 (.reg [
 ⟨(some 1), .box (.t 0) 35, none⟩,
 ⟨(some 2), .mov (.k (.bool false)), none⟩])
 (.seq
 (.seq
 (.reg [
 ⟨(some 4), .call 18 [], none⟩,
 ⟨(some 5), .un .not (.t 4), none⟩])
 (.cond (.t 5)
 (.seq
 (.reg [
 ⟨(some 2), .mov (.k (.bool false)), none⟩])
 .ret)
 .skip))
 (.seq
 (.seq
 (.reg [
 ⟨(some 6), .fld 6 (.t 1), none⟩,
 ⟨(some 7), .load 1 false (.t 6), none⟩,
 ⟨(some 8), .len false (.t 7), none⟩,
 ⟨(some 9), .bin .gtr (.t 8) (.k (.int .i64 60)), none⟩,
 ⟨(some 10), .mov (.t 9), none⟩,
 ⟨(some 11), .fld 8 (.t 1), (some (10, false))⟩,
 ⟨(some 12), .load 1 false (.t 11), (some (10, false))⟩,
 ⟨(some 13), .len false (.t 12), (some (10, false))⟩,
 ⟨(some 14), .bin .gtr (.t 13) (.k (.int .i64 300)), (some (10, false))⟩,
 ⟨(some 15), .pick (.t 10) (.k (.bool true)) (.t 14), none⟩,
 ⟨(some 16), .mov (.t 15), none⟩,
 ⟨(some 17), .fld 11 (.t 1), (some (16, false))⟩,
 ⟨(some 18), .load 1 false (.t 17), (some (16, false))⟩,
 ⟨(some 19), .len false (.t 18), (some (16, false))⟩,
 ⟨(some 20), .bin .gtr (.t 19) (.k (.int .i64 300)), (some (16, false))⟩,
 ⟨(some 21), .pick (.t 16) (.k (.bool true)) (.t 20), none⟩,
 ⟨(some 22), .mov (.t 21), none⟩,
 ⟨(some 23), .fld 15 (.t 1), (some (22, false))⟩,
 ⟨(some 24), .load 1 false (.t 23), (some (22, false))⟩,
 ⟨(some 25), .len false (.t 24), (some (22, false))⟩,
 ⟨(some 26), .bin .gtr (.t 25) (.k (.int .i64 300)), (some (22, false))⟩,
 ⟨(some 27), .pick (.t 22) (.k (.bool true)) (.t 26), none⟩])
 (.cond (.t 27)
 (.seq
 (.reg [
 ⟨(some 2), .mov (.k (.bool true)), none⟩])
 .ret)
 .skip))
 (.seq
 (.seq
 (.reg [
 ⟨(some 3), .mov (.k (.int .i64 0)), none⟩])
 (.block 0
 (.loop
 (.seq
 (.seq
 (.reg [
 ⟨(some 28), .mov (.t 3), none⟩,
 ⟨(some 29), .fld 6 (.t 1), none⟩,
 ⟨(some 30), .load 1 false (.t 29), none⟩,
 ⟨(some 31), .len false (.t 30), none⟩,
 ⟨(some 32), .bin .lss (.t 28) (.t 31), none⟩])
 (.cond (.t 32)
 .skip
 (.exit 0)))
 (.seq
 (.block 1
 (.seq
 (.reg [
 ⟨(some 35), .fld 6 (.t 1), none⟩,
 ⟨(some 36), .load 1 false (.t 35), none⟩,
 ⟨(some 37), .mov (.t 3), none⟩,
 ⟨(some 38), .idx 4 (.t 36) (.t 37), none⟩,
 ⟨(some 39), .fld 0 (.t 38), none⟩,
 ⟨(some 40), .load 1 false (.t 39), none⟩,
 ⟨(some 41), .len false (.t 40), none⟩,
 ⟨(some 42), .bin .gtr (.t 41) (.k (.int .i64 100)), none⟩,
 ⟨(some 43), .mov (.t 42), none⟩,
 ⟨(some 44), .fld 6 (.t 1), (some (43, false))⟩,
 ⟨(some 45), .load 1 false (.t 44), (some (43, false))⟩,
 ⟨(some 46), .mov (.t 3), (some (43, false))⟩,
 ⟨(some 47), .idx 4 (.t 45) (.t 46), (some (43, false))⟩,
 ⟨(some 48), .fld 1 (.t 47), (some (43, false))⟩,
 ⟨(some 49), .load 1 false (.t 48), (some (43, false))⟩,
 ⟨(some 50), .len false (.t 49), (some (43, false))⟩,
 ⟨(some 51), .bin .gtr (.t 50) (.k (.int .i64 100)), (some (43, false))⟩,
 ⟨(some 52), .pick (.t 43) (.k (.bool true)) (.t 51), none⟩,
 ⟨(some 53), .mov (.t 52), none⟩,
 ⟨(some 54), .fld 6 (.t 1), (some (53, false))⟩,
 ⟨(some 55), .load 1 false (.t 54), (some (53, false))⟩,
 ⟨(some 56), .mov (.t 3), (some (53, false))⟩,
 ⟨(some 57), .idx 4 (.t 55) (.t 56), (some (53, false))⟩,
 ⟨(some 58), .fld 2 (.t 57), (some (53, false))⟩,
 ⟨(some 59), .load 1 false (.t 58), (some (53, false))⟩,
 ⟨(some 60), .len false (.t 59), (some (53, false))⟩,
 ⟨(some 61), .bin .gtr (.t 60) (.k (.int .i64 100)), (some (53, false))⟩,
 ⟨(some 62), .pick (.t 53) (.k (.bool true)) (.t 61), none⟩])
 (.cond (.t 62)
 (.seq
 (.reg [
 ⟨(some 2), .mov (.k (.bool true)), none⟩])
 .ret)
 .skip)))
 (.reg [
 ⟨(some 33), .mov (.t 3), none⟩,
 ⟨(some 34), .bin .add (.t 33) (.k (.int .i64 1)), none⟩,
 ⟨(some 3), .mov (.t 34), none⟩]))))))
 (.seq
 (.regd [
 ⟨⟨(some 63), .load 16 true (.t 1), none⟩, 0, [], false⟩,
 ⟨⟨(some 65), .load 16 true (.t 1), none⟩, 2, [], true⟩,
 ⟨⟨(some 64), .call 19 [(.t 63)], none⟩, 1, [0], false⟩,
 ⟨⟨(some 66), .call 20 [(.t 65)], none⟩, 3, [2, 1, 0], false⟩,
 ⟨⟨(some 67), .bin .eql (.t 64) (.t 66), none⟩, 4, [], false⟩,
 ⟨⟨(some 2), .mov (.t 67), none⟩, 5, [], false⟩])
 .ret)))))
theorem a7 : Go.Proofs.Try.f7.body.bind (comp Go.Proofs.Try.prog) = some A7 := by kernel_rfl
theorem r7 : compRVs Go.Proofs.Try.prog Go.Proofs.Try.f7.results.toList = some [.tmp 2] := by kernel_rfl
theorem n7 : (Go.Proofs.Try.f7.name == "runtime.NumGoroutine") = false := by decide +kernel
def E7 : Nat × ACode × Nat × List RV := (7, A7, 68, [.tmp 2])
theorem e7 : EntryOk Go.Proofs.Try.prog E7 := ⟨Go.Proofs.Try.f7, Go.Proofs.Try.func7, n7, a7, Go.Proofs.Try.ntmps7, r7⟩
/-! reedpen/gsub.Things -/
def A15 : ACode :=
 (.seq
 (.reg [
 ⟨(some 1), .box (.t 0) 35, none⟩,
 ⟨(some 2), .mov (.k (.int .i64 0)), none⟩])
 (.seq
 (.reg [
 ⟨(some 3), .new [(.int .i64 0)] 3, none⟩,
 ⟨none, .store 1 (.t 3) (.k (.int .i64 1)), none⟩])
 (.seq
 (.reg [
 ⟨(some 17), .mkfn (.func 38) [] [(.t 3)], none⟩,
 ⟨(some 4), .mov (.t 17), none⟩])
 (.seq
 (.seq
 (.reg [
 ⟨(some 18), .fld 4 (.t 1), none⟩,
 ⟨(some 19), .load 1 false (.t 18), none⟩,
 ⟨(some 20), .len false (.t 19), none⟩,
 ⟨(some 21), .mov (.k (.int .i64 0)), none⟩])
 (.block 0
 (.loop
 (.seq
 (.reg [
 ⟨(some 22), .bin .lss (.t 21) (.t 20), none⟩])
 (.seq
 (.cond (.t 22)
 .skip
 (.exit 0))
 (.seq
 (.block 1
 (.seq
 (.reg [
 ⟨(some 23), .idx 1 (.t 19) (.t 21), none⟩,
 ⟨(some 24), .load 1 false (.t 23), none⟩,
 ⟨(some 6), .mov (.t 24), none⟩])
 (.reg [
 ⟨(some 25), .mov (.t 4), none⟩,
 ⟨(some 26), .mov (.t 6), none⟩,
 ⟨(some 27), .len false (.t 26), none⟩,
 ⟨(some 28), .bin .add (.t 27) (.k (.int .i64 1)), none⟩,
 ⟨(some 29), .callv (.t 25) [(.t 28)], none⟩])))
 (.reg [
 ⟨(some 30), .bin .add (.t 21) (.k (.int .i64 1)), none⟩,
 ⟨(some 21), .mov (.t 30), none⟩])))))))
 (.seq
 (.seq
 (.reg [
 ⟨(some 31), .fld 5 (.t 1), none⟩,
 ⟨(some 32), .load 1 false (.t 31), none⟩,
 ⟨(some 33), .len false (.t 32), none⟩,
 ⟨(some 34), .mov (.k (.int .i64 0)), none⟩])
 (.block 2
 (.loop
 (.seq
 (.reg [
 ⟨(some 35), .bin .lss (.t 34) (.t 33), none⟩])
 (.seq
 (.cond (.t 35)
 .skip
 (.exit 2))
 (.seq
 (.block 3
 (.seq
 (.reg [
 ⟨(some 36), .idx 1 (.t 32) (.t 34), none⟩,
 ⟨(some 37), .load 1 false (.t 36), none⟩,
 ⟨(some 8), .mov (.t 37), none⟩])
 (.seq
 (.reg [
 ⟨(some 38), .mov (.t 4), none⟩,
 ⟨(some 39), .callv (.t 38) [(.k (.int .i64 1))], none⟩])
 (.seq
 (.reg [
 ⟨(some 40), .mov (.t 8), none⟩,
 ⟨(some 41), .len false (.t 40), none⟩,
 ⟨(some 42), .mov (.k (.int .i64 0)), none⟩])
 (.block 4
 (.loop
 (.seq
 (.reg [
 ⟨(some 43), .bin .lss (.t 42) (.t 41), none⟩])
 (.seq
 (.cond (.t 43)
 .skip
 (.exit 4))
 (.seq
 (.block 5
 (.seq
 (.reg [
 ⟨(some 44), .idx 2 (.t 40) (.t 42), none⟩,
 ⟨(some 45), .load 2 true (.t 44), none⟩,
 ⟨(some 10), .new [(.vec true []), (.int .i64 0)] 77, none⟩,
 ⟨none, .store 2 (.t 10) (.t 45), none⟩])
 (.reg [
 ⟨(some 46), .mov (.t 4), none⟩,
 ⟨(some 47), .fld 0 (.t 10), none⟩,
 ⟨(some 48), .load 1 false (.t 47), none⟩,
 ⟨(some 49), .len false (.t 48), none⟩,
 ⟨(some 50), .bin .add (.t 49) (.k (.int .i64 1)), none⟩,
 ⟨(some 51), .callv (.t 46) [(.t 50)], none⟩])))
 (.reg [
 ⟨(some 52), .bin .add (.t 42) (.k (.int .i64 1)), none⟩,
 ⟨(some 42), .mov (.t 52), none⟩]))))))))))
 (.reg [
 ⟨(some 53), .bin .add (.t 34) (.k (.int .i64 1)), none⟩,
 ⟨(some 34), .mov (.t 53), none⟩])))))))
 (.seq
 (.seq
 (.reg [
 ⟨(some 54), .fld 6 (.t 1), none⟩,
 ⟨(some 55), .load 1 false (.t 54), none⟩,
 ⟨(some 56), .len false (.t 55), none⟩,
 ⟨(some 57), .mov (.k (.int .i64 0)), none⟩])
 (.block 6
 (.loop
 (.seq
 (.reg [
 ⟨(some 58), .bin .lss (.t 57) (.t 56), none⟩])
 (.seq
 (.cond (.t 58)
 .skip
 (.exit 6))
 (.seq
 (.block 7
 (.seq
 (.reg [
 ⟨(some 59), .idx 4 (.t 55) (.t 57), none⟩,
 ⟨(some 60), .load 4 true (.t 59), none⟩,
 ⟨(some 12), .new [(.vec true []), (.vec true []), (.vec true []), (.vec true [])] 45, none⟩,
 ⟨none, .store 4 (.t 12) (.t 60), none⟩])
 (.seq
 (.seq
 (.reg [
 ⟨(some 61), .fld 0 (.t 12), none⟩,
 ⟨(some 62), .load 1 false (.t 61), none⟩,
 ⟨(some 63), .fld 1 (.t 12), none⟩,
 ⟨(some 64), .load 1 false (.t 63), none⟩,
 ⟨(some 65), .fld 2 (.t 12), none⟩,
 ⟨(some 66), .load 1 false (.t 65), none⟩,
 ⟨(some 67), .lits 1 42 [(.t 62), (.t 64), (.t 66)], none⟩,
 ⟨(some 68), .len false (.t 67), none⟩,
 ⟨(some 69), .mov (.k (.int .i64 0)), none⟩])
 (.block 8
 (.loop
 (.seq
 (.reg [
 ⟨(some 70), .bin .lss (.t 69) (.t 68), none⟩])
 (.seq
 (.cond (.t 70)
 .skip
 (.exit 8))
 (.seq
 (.block 9
 (.seq
 (.reg [
 ⟨(some 71), .idx 1 (.t 67) (.t 69), none⟩,
 ⟨(some 72), .load 1 false (.t 71), none⟩,
 ⟨(some 14), .mov (.t 72), none⟩])
 (.seq
 (.reg [
 ⟨(some 73), .mov (.t 14), none⟩,
 ⟨(some 74), .len false (.t 73), none⟩,
 ⟨(some 75), .mov (.k (.int .i64 0)), none⟩])
 (.block 10
 (.loop
 (.seq
 (.reg [
 ⟨(some 76), .bin .lss (.t 75) (.t 74), none⟩])
 (.seq
 (.cond (.t 76)
 .skip
 (.exit 10))
 (.seq
 (.block 11
 (.seq
 (.reg [
 ⟨(some 77), .idx 2 (.t 73) (.t 75), none⟩,
 ⟨(some 78), .load 2 true (.t 77), none⟩,
 ⟨(some 16), .new [(.vec true []), (.bool false)] 85, none⟩,
 ⟨none, .store 2 (.t 16) (.t 78), none⟩])
 (.reg [
 ⟨(some 79), .mov (.t 4), none⟩,
 ⟨(some 80), .fld 0 (.t 16), none⟩,
 ⟨(some 81), .load 1 false (.t 80), none⟩,
 ⟨(some 82), .len false (.t 81), none⟩,
 ⟨(some 83), .bin .add (.t 82) (.k (.int .i64 1)), none⟩,
 ⟨(some 84), .callv (.t 79) [(.t 83)], none⟩])))
 (.reg [
 ⟨(some 85), .bin .add (.t 75) (.k (.int .i64 1)), none⟩,
 ⟨(some 75), .mov (.t 85), none⟩])))))))))
 (.reg [
 ⟨(some 86), .bin .add (.t 69) (.k (.int .i64 1)), none⟩,
 ⟨(some 69), .mov (.t 86), none⟩])))))))
 (.reg [
 ⟨(some 87), .mov (.t 4), none⟩,
 ⟨(some 88), .fld 3 (.t 12), none⟩,
 ⟨(some 89), .load 1 false (.t 88), none⟩,
 ⟨(some 90), .len false (.t 89), none⟩,
 ⟨(some 91), .callv (.t 87) [(.t 90)], none⟩]))))
 (.reg [
 ⟨(some 92), .bin .add (.t 57) (.k (.int .i64 1)), none⟩,
 ⟨(some 57), .mov (.t 92), none⟩])))))))
 (.seq
 (.reg [
 ⟨(some 93), .load 1 false (.t 3), none⟩,
 ⟨(some 2), .mov (.t 93), none⟩])
 .ret)))))))
theorem a15 : Go.Proofs.Try.f15.body.bind (comp Go.Proofs.Try.prog) = some A15 := by kernel_rfl
theorem r15 : compRVs Go.Proofs.Try.prog Go.Proofs.Try.f15.results.toList = some [.tmp 2] := by kernel_rfl
theorem n15 : (Go.Proofs.Try.f15.name == "runtime.NumGoroutine") = false := by decide +kernel
def E15 : Nat × ACode × Nat × List RV := (15, A15, 94, [.tmp 2])
theorem e15 : EntryOk Go.Proofs.Try.prog E15 := ⟨Go.Proofs.Try.f15, Go.Proofs.Try.func15, n15, a15, Go.Proofs.Try.ntmps15, r15⟩
/-! reedpen/reedpenref12.Things -/
def A16 : ACode :=
 (.seq
 (.reg [
 ⟨(some 1), .box (.t 0) 35, none⟩,
 ⟨(some 2), .mov (.k (.int .i64 0)), none⟩])
 (.seq
 (.reg [
 ⟨(some 3), .mov (.k (.int .i64 1)), none⟩])
 (.seq
 (.seq
 (.reg [
 ⟨(some 4), .mov (.k (.int .i64 0)), none⟩])
 (.block 0
 (.loop
 (.seq
 (.seq
 (.reg [
 ⟨(some 11), .mov (.t 4), none⟩,
 ⟨(some 12), .fld 4 (.t 1), none⟩,
 ⟨(some 13), .load 1 false (.t 12), none⟩,
 ⟨(some 14), .len false (.t 13), none⟩,
 ⟨(some 15), .bin .lss (.t 11) (.t 14), none⟩])
 (.cond (.t 15)
 .skip
 (.exit 0)))
 (.seq
 (.block 1
 (.reg [
 ⟨(some 18), .mov (.t 3), none⟩,
 ⟨(some 19), .bin .add (.t 18) (.k (.int .i64 1)), none⟩,
 ⟨(some 20), .fld 4 (.t 1), none⟩,
 ⟨(some 21), .load 1 false (.t 20), none⟩,
 ⟨(some 22), .mov (.t 4), none⟩,
 ⟨(some 23), .idx 1 (.t 21) (.t 22), none⟩,
 ⟨(some 24), .load 1 false (.t 23), none⟩,
 ⟨(some 25), .len false (.t 24), none⟩,
 ⟨(some 26), .bin .add (.t 19) (.t 25), none⟩,
 ⟨(some 3), .mov (.t 26), none⟩]))
 (.reg [
 ⟨(some 16), .mov (.t 4), none⟩,
 ⟨(some 17), .bin .add (.t 16) (.k (.int .i64 1)), none⟩,
 ⟨(some 4), .mov (.t 17), none⟩]))))))
 (.seq
 (.seq
 (.reg [
 ⟨(some 5), .mov (.k (.int .i64 0)), none⟩])
 (.block 2
 (.loop
 (.seq
 (.seq
 (.reg [
 ⟨(some 27), .mov (.t 5), none⟩,
 ⟨(some 28), .fld 5 (.t 1), none⟩,
 ⟨(some 29), .load 1 false (.t 28), none⟩,
 ⟨(some 30), .len false (.t 29), none⟩,
 ⟨(some 31), .bin .lss (.t 27) (.t 30), none⟩])
 (.cond (.t 31)
 .skip
 (.exit 2)))
 (.seq
 (.block 3
 (.seq
 (.reg [
 ⟨(some 34), .mov (.t 3), none⟩,
 ⟨(some 35), .bin .add (.t 34) (.k (.int .i64 1)), none⟩,
 ⟨(some 3), .mov (.t 35), none⟩])
 (.seq
 (.reg [
 ⟨(some 6), .mov (.k (.int .i64 0)), none⟩])
 (.block 4
 (.loop
 (.seq
 (.seq
 (.reg [
 ⟨(some 36), .mov (.t 6), none⟩,
 ⟨(some 37), .fld 5 (.t 1), none⟩,
 ⟨(some 38), .load 1 false (.t 37), none⟩,
 ⟨(some 39), .mov (.t 5), none⟩,
 ⟨(some 40), .idx 1 (.t 38) (.t 39), none⟩,
 ⟨(some 41), .load 1 false (.t 40), none⟩,
 ⟨(some 42), .len false (.t 41), none⟩,
 ⟨(some 43), .bin .lss (.t 36) (.t 42), none⟩])
 (.cond (.t 43)
 .skip
 (.exit 4)))
 (.seq
 (.block 5
 (.reg [
 ⟨(some 46), .mov (.t 3), none⟩,
 ⟨(some 47), .bin .add (.t 46) (.k (.int .i64 1)), none⟩,
 ⟨(some 48), .fld 5 (.t 1), none⟩,
 ⟨(some 49), .load 1 false (.t 48), none⟩,
 ⟨(some 50), .mov (.t 5), none⟩,
 ⟨(some 51), .idx 1 (.t 49) (.t 50), none⟩,
 ⟨(some 52), .load 1 false (.t 51), none⟩,
 ⟨(some 53), .mov (.t 6), none⟩,
 ⟨(some 54), .idx 2 (.t 52) (.t 53), none⟩,
 ⟨(some 55), .fld 0 (.t 54), none⟩,
 ⟨(some 56), .load 1 false (.t 55), none⟩,
 ⟨(some 57), .len false (.t 56), none⟩,
 ⟨(some 58), .bin .add (.t 47) (.t 57), none⟩,
 ⟨(some 3), .mov (.t 58), none⟩]))
 (.reg [
 ⟨(some 44), .mov (.t 6), none⟩,
 ⟨(some 45), .bin .add (.t 44) (.k (.int .i64 1)), none⟩,
 ⟨(some 6), .mov (.t 45), none⟩]))))))))
 (.reg [
 ⟨(some 32), .mov (.t 5), none⟩,
 ⟨(some 33), .bin .add (.t 32) (.k (.int .i64 1)), none⟩,
 ⟨(some 5), .mov (.t 33), none⟩]))))))
 (.seq
 (.seq
 (.reg [
 ⟨(some 7), .mov (.k (.int .i64 0)), none⟩])
 (.block 6
 (.loop
 (.seq
 (.seq
 (.reg [
 ⟨(some 59), .mov (.t 7), none⟩,
 ⟨(some 60), .fld 6 (.t 1), none⟩,
 ⟨(some 61), .load 1 false (.t 60), none⟩,
 ⟨(some 62), .len false (.t 61), none⟩,
 ⟨(some 63), .bin .lss (.t 59) (.t 62), none⟩])
 (.cond (.t 63)
 .skip
 (.exit 6)))
 (.seq
 (.block 7
 (.seq
 (.reg [
 ⟨(some 66), .mov (.t 3), none⟩,
 ⟨(some 67), .fld 6 (.t 1), none⟩,
 ⟨(some 68), .load 1 false (.t 67), none⟩,
 ⟨(some 69), .mov (.t 7), none⟩,
 ⟨(some 70), .idx 4 (.t 68) (.t 69), none⟩,
 ⟨(some 71), .fld 3 (.t 70), none⟩,
 ⟨(some 72), .load 1 false (.t 71), none⟩,
 ⟨(some 73), .len false (.t 72), none⟩,
 ⟨(some 74), .bin .add (.t 66) (.t 73), none⟩,
 ⟨(some 3), .mov (.t 74), none⟩])
 (.seq
 (.reg [
 ⟨(some 8), .mov (.k (.int .i64 0)), none⟩])
 (.block 8
 (.loop
 (.seq
 (.seq
 (.reg [
 ⟨(some 75), .mov (.t 8), none⟩,
 ⟨(some 76), .bin .lss (.t 75) (.k (.int .i64 3)), none⟩])
 (.cond (.t 76)
 .skip
 (.exit 8)))
 (.seq
 (.block 9
 (.seq
 (.reg [
 ⟨(some 79), .fld 6 (.t 1), none⟩,
 ⟨(some 80), .load 1 false (.t 79), none⟩,
 ⟨(some 81), .mov (.t 7), none⟩,
 ⟨(some 82), .idx 4 (.t 80) (.t 81), none⟩,
 ⟨(some 83), .fld 0 (.t 82), none⟩,
 ⟨(some 84), .load 1 false (.t 83), none⟩,
 ⟨(some 9), .mov (.t 84), none⟩])
 (.seq
 (.seq
 (.reg [
 ⟨(some 85), .mov (.t 8), none⟩,
 ⟨(some 86), .bin .eql (.t 85) (.k (.int .i64 1)), none⟩])
 (.cond (.t 86)
 (.reg [
 ⟨(some 87), .fld 6 (.t 1), none⟩,
 ⟨(some 88), .load 1 false (.t 87), none⟩,
 ⟨(some 89), .mov (.t 7), none⟩,
 ⟨(some 90), .idx 4 (.t 88) (.t 89), none⟩,
 ⟨(some 91), .fld 1 (.t 90), none⟩,
 ⟨(some 92), .load 1 false (.t 91), none⟩,
 ⟨(some 9), .mov (.t 92), none⟩])
 .skip))
 (.seq
 (.seq
 (.reg [
 ⟨(some 93), .mov (.t 8), none⟩,
 ⟨(some 94), .bin .eql (.t 93) (.k (.int .i64 2)), none⟩])
 (.cond (.t 94)
 (.reg [
 ⟨(some 95), .fld 6 (.t 1), none⟩,
 ⟨(some 96), .load 1 false (.t 95), none⟩,
 ⟨(some 97), .mov (.t 7), none⟩,
 ⟨(some 98), .idx 4 (.t 96) (.t 97), none⟩,
 ⟨(some 99), .fld 2 (.t 98), none⟩,
 ⟨(some 100), .load 1 false (.t 99), none⟩,
 ⟨(some 9), .mov (.t 100), none⟩])
 .skip))
 (.seq
 (.reg [
 ⟨(some 10), .mov (.k (.int .i64 0)), none⟩])
 (.block 10
 (.loop
 (.seq
 (.seq
 (.reg [
 ⟨(some 101), .mov (.t 10), none⟩,
 ⟨(some 102), .mov (.t 9), none⟩,
 ⟨(some 103), .len false (.t 102), none⟩,
 ⟨(some 104), .bin .lss (.t 101) (.t 103), none⟩])
 (.cond (.t 104)
 .skip
 (.exit 10)))
 (.seq
 (.block 11
 (.reg [
 ⟨(some 107), .mov (.t 3), none⟩,
 ⟨(some 108), .bin .add (.t 107) (.k (.int .i64 1)), none⟩,
 ⟨(some 109), .mov (.t 9), none⟩,
 ⟨(some 110), .mov (.t 10), none⟩,
 ⟨(some 111), .idx 2 (.t 109) (.t 110), none⟩,
 ⟨(some 112), .fld 0 (.t 111), none⟩,
 ⟨(some 113), .load 1 false (.t 112), none⟩,
 ⟨(some 114), .len false (.t 113), none⟩,
 ⟨(some 115), .bin .add (.t 108) (.t 114), none⟩,
 ⟨(some 3), .mov (.t 115), none⟩]))
 (.reg [
 ⟨(some 105), .mov (.t 10), none⟩,
 ⟨(some 106), .bin .add (.t 105) (.k (.int .i64 1)), none⟩,
 ⟨(some 10), .mov (.t 106), none⟩]))))))))))
 (.reg [
 ⟨(some 77), .mov (.t 8), none⟩,
 ⟨(some 78), .bin .add (.t 77) (.k (.int .i64 1)), none⟩,
 ⟨(some 8), .mov (.t 78), none⟩]))))))))
 (.reg [
 ⟨(some 64), .mov (.t 7), none⟩,
 ⟨(some 65), .bin .add (.t 64) (.k (.int .i64 1)), none⟩,
 ⟨(some 7), .mov (.t 65), none⟩]))))))
 (.seq
 (.seq
 (.reg [
 ⟨(some 116), .mov (.t 3), none⟩,
 ⟨(some 117), .bin .gtr (.t 116) (.k (.int .i64 20001)), none⟩])
 (.cond (.t 117)
 (.seq
 (.reg [
 ⟨(some 2), .mov (.k (.int .i64 20001)), none⟩])
 .ret)
 .skip))
 (.seq
 (.reg [
 ⟨(some 118), .mov (.t 3), none⟩,
 ⟨(some 2), .mov (.t 118), none⟩])
 .ret)))))))
theorem a16 : Go.Proofs.Try.f16.body.bind (comp Go.Proofs.Try.prog) = some A16 := by kernel_rfl
theorem r16 : compRVs Go.Proofs.Try.prog Go.Proofs.Try.f16.results.toList = some [.tmp 2] := by kernel_rfl
theorem n16 : (Go.Proofs.Try.f16.name == "runtime.NumGoroutine") = false := by decide +kernel
def E16 : Nat × ACode × Nat × List RV := (16, A16, 119, [.tmp 2])
theorem e16 : EntryOk Go.Proofs.Try.prog E16 := ⟨Go.Proofs.Try.f16, Go.Proofs.Try.func16, n16, a16, Go.Proofs.Try.ntmps16, r16⟩
/-! reedpen/reedpenlaw13.alive -/
def A18 : ACode :=
 (.seq
 (.reg [
 ⟨(some 0), .mov (.k (.bool false)), none⟩])
 (.seq
 (.reg [
 ⟨(some 4), .lits 1 5 [(.k (.int .u8 0)), (.k (.int .u8 1)), (.k (.int .u8 0)), (.k (.int .u8 8)), (.k (.int .u8 0)), (.k (.int .u8 4)), (.k (.int .u8 255)), (.k (.int .u8 255)), (.k (.int .u8 0)), (.k (.int .u8 1)), (.k (.int .u8 0)), (.k (.int .u8 1)), (.k (.int .u8 0)), (.k (.int .u8 5))], none⟩,
 ⟨(some 5), .call 21 [(.t 4), (.k (.int .i64 0)), (.k (.int .i64 1))], none⟩,
 ⟨(some 3), .mov (.t 5), none⟩,
 ⟨(some 6), .ext 0 (.t 3), none⟩,
 ⟨(some 7), .ext 1 (.t 3), none⟩,
 ⟨(some 1), .new [(.int .i64 0), (.vec true []), (.bool false), (.int .i64 0), (.vec true []), (.vec true []), (.vec true []), (.vec true []), (.vec true []), (.vec true []), (.vec true []), (.vec true []), (.vec true []), (.vec true []), (.vec true []), (.vec true [])] 35, none⟩,
 ⟨none, .store 16 (.t 1) (.t 6), none⟩,
 ⟨(some 2), .mov (.t 7), none⟩])
 (.seq
 (.reg [
 ⟨(some 8), .mov (.t 2), none⟩,
 ⟨(some 9), .mov (.t 8), none⟩,
 ⟨(some 10), .fld 0 (.t 1), (some (9, true))⟩,
 ⟨(some 11), .load 1 false (.t 10), (some (9, true))⟩,
 ⟨(some 12), .bin .eql (.t 11) (.k (.int .i64 11)), (some (9, true))⟩,
 ⟨(some 13), .pick (.t 9) (.t 12) (.k (.bool false)), none⟩,
 ⟨(some 14), .mov (.t 13), none⟩,
 ⟨(some 15), .fld 7 (.t 1), (some (14, true))⟩,
 ⟨(some 16), .load 1 false (.t 15), (some (14, true))⟩,
 ⟨(some 17), .len false (.t 16), (some (14, true))⟩,
 ⟨(some 18), .bin .eql (.t 17) (.k (.int .i64 1)), (some (14, true))⟩,
 ⟨(some 19), .pick (.t 14) (.t 18) (.k (.bool false)), none⟩,
 ⟨(some 20), .mov (.t 19), none⟩,
 ⟨(some 21), .fld 7 (.t 1), (some (20, true))⟩,
 ⟨(some 22), .load 1 false (.t 21), (some (20, true))⟩,
 ⟨(some 23), .idx 4 (.t 22) (.k (.int .i64 0)), (some (20, true))⟩,
 ⟨(some 24), .fld 2 (.t 23), (some (20, true))⟩,
 ⟨(some 25), .load 1 false (.t 24), (some (20, true))⟩,
 ⟨(some 26), .bin .eql (.t 25) (.k (.int .i64 (-1))), (some (20, true))⟩,
 ⟨(some 27), .pick (.t 20) (.t 26) (.k (.bool false)), none⟩,
 ⟨(some 28), .mov (.t 27), none⟩,
 ⟨(some 29), .load 16 true (.t 1), (some (28, true))⟩,
 ⟨(some 30), .call 19 [(.t 29)], (some (28, true))⟩,
 ⟨(some 31), .bin .eql (.t 30) (.k (.int .i64 2)), (some (28, true))⟩,
 ⟨(some 32), .pick (.t 28) (.t 31) (.k (.bool false)), none⟩,
 ⟨(some 0), .mov (.t 32), none⟩])
 .ret)))
theorem a18 : Go.Proofs.Try.f18.body.bind (comp Go.Proofs.Try.prog) = some A18 := by kernel_rfl
theorem r18 : compRVs Go.Proofs.Try.prog Go.Proofs.Try.f18.results.toList = some [.tmp 0] := by kernel_rfl
theorem n18 : (Go.Proofs.Try.f18.name == "runtime.NumGoroutine") = false := by decide +kernel
def E18 : Nat × ACode × Nat × List RV := (18, A18, 33, [.tmp 0])
theorem e18 : EntryOk Go.Proofs.Try.prog E18 := ⟨Go.Proofs.Try.f18, Go.Proofs.Try.func18, n18, a18, Go.Proofs.Try.ntmps18, r18⟩
/-! reedpen/gpos.Things -/
def A19 : ACode :=
 (.seq
 (.reg [
 ⟨(some 1), .box (.t 0) 35, none⟩,
 ⟨(some 2), .mov (.k (.int .i64 0)), none⟩])
 (.seq
 (.regd [
 ⟨⟨(some 12), .fld 6 (.t 1), none⟩, 0, [], false⟩,
 ⟨⟨(some 13), .load 1 false (.t 12), none⟩, 1, [], false⟩,
 ⟨⟨(some 14), .build [(.int .i64 0), (.vec true []), (.bool false), (.int .i64 0), (.vec true []), (.vec true []), (.vec true []), (.vec true []), (.vec true []), (.vec true []), (.vec true []), (.vec true []), (.vec true []), (.vec true []), (.vec true []), (.vec true [])] [(6, 1, (.t 13))], none⟩, 2, [], false⟩,
 ⟨⟨(some 16), .fld 7 (.t 1), none⟩, 4, [], false⟩,
 ⟨⟨(some 17), .load 1 false (.t 16), none⟩, 5, [], true⟩,
 ⟨⟨(some 18), .len false (.t 17), none⟩, 6, [], false⟩,
 ⟨⟨(some 20), .fld 12 (.t 1), none⟩, 8, [], false⟩,
 ⟨⟨(some 21), .load 1 false (.t 20), none⟩, 9, [], true⟩,
 ⟨⟨(some 22), .len false (.t 21), none⟩, 10, [], false⟩,
 ⟨⟨(some 24), .fld 13 (.t 1), none⟩, 12, [], false⟩,
 ⟨⟨(some 25), .load 1 false (.t 24), none⟩, 13, [], true⟩,
 ⟨⟨(some 26), .len false (.t 25), none⟩, 14, [], false⟩,
 ⟨⟨(some 28), .fld 14 (.t 1), none⟩, 16, [], false⟩,
 ⟨⟨(some 29), .load 1 false (.t 28), none⟩, 17, [], true⟩,
 ⟨⟨(some 30), .len false (.t 29), none⟩, 18, [], false⟩,
 ⟨⟨(some 32), .fld 9 (.t 1), none⟩, 20, [], false⟩,
 ⟨⟨(some 33), .load 1 false (.t 32), none⟩, 21, [], true⟩,
 ⟨⟨(some 34), .len false (.t 33), none⟩, 22, [], false⟩,
 ⟨⟨(some 36), .fld 10 (.t 1), none⟩, 24, [], false⟩,
 ⟨⟨(some 37), .load 1 false (.t 36), none⟩, 25, [], true⟩,
 ⟨⟨(some 38), .len false (.t 37), none⟩, 26, [], false⟩,
 ⟨⟨(some 15), .call 15 [(.t 14)], none⟩, 3, [2, 1, 0], false⟩,
 ⟨⟨(some 19), .bin .add (.t 15) (.t 18), none⟩, 7, [], false⟩,
 ⟨⟨(some 23), .bin .add (.t 19) (.t 22), none⟩, 11, [], false⟩,
 ⟨⟨(some 27), .bin .add (.t 23) (.t 26), none⟩, 15, [], false⟩,
 ⟨⟨(some 31), .bin .add (.t 27) (.t 30), none⟩, 19, [], false⟩,
 ⟨⟨(some 35), .bin .add (.t 31) (.t 34), none⟩, 23, [], false⟩,
 ⟨⟨(some 39), .bin .add (.t 35) (.t 38), none⟩, 27, [], false⟩,
 ⟨⟨(some 3), .mov (.t 39), none⟩, 28, [], false⟩])
 (.seq
 (.seq
 (.reg [
 ⟨(some 40), .fld 8 (.t 1), none⟩,
 ⟨(some 41), .load 1 false (.t 40), none⟩,
 ⟨(some 42), .fld 11 (.t 1), none⟩,
 ⟨(some 43), .load 1 false (.t 42), none⟩,
 ⟨(some 44), .lits 1 29 [(.t 41), (.t 43)], none⟩,
 ⟨(some 45), .len false (.t 44), none⟩,
 ⟨(some 46), .mov (.k (.int .i64 0)), none⟩])
 (.block 0
 (.loop
 (.seq
 (.reg [
 ⟨(some 47), .bin .lss (.t 46) (.t 45), none⟩])
 (.seq
 (.cond (.t 47)
 .skip
 (.exit 0))
 (.seq
 (.block 1
 (.seq
 (.reg [
 ⟨(some 48), .idx 1 (.t 44) (.t 46), none⟩,
 ⟨(some 49), .load 1 false (.t 48), none⟩,
 ⟨(some 5), .mov (.t 49), none⟩])
 (.seq
 (.reg [
 ⟨(some 50), .mov (.t 5), none⟩,
 ⟨(some 51), .len false (.t 50), none⟩,
 ⟨(some 52), .mov (.k (.int .i64 0)), none⟩])
 (.block 2
 (.loop
 (.seq
 (.reg [
 ⟨(some 53), .bin .lss (.t 52) (.t 51), none⟩])
 (.seq
 (.cond (.t 53)
 .skip
 (.exit 2))
 (.seq
 (.block 3
 (.seq
 (.reg [
 ⟨(some 54), .idx 1 (.t 50) (.t 52), none⟩,
 ⟨(some 55), .load 1 false (.t 54), none⟩,
 ⟨(some 7), .mov (.t 55), none⟩])
 (.reg [
 ⟨(some 56), .mov (.t 3), none⟩,
 ⟨(some 57), .mov (.t 7), none⟩,
 ⟨(some 58), .len false (.t 57), none⟩,
 ⟨(some 59), .bin .add (.t 58) (.k (.int .i64 1)), none⟩,
 ⟨(some 60), .bin .add (.t 56) (.t 59), none⟩,
 ⟨(some 3), .mov (.t 60), none⟩])))
 (.reg [
 ⟨(some 61), .bin .add (.t 52) (.k (.int .i64 1)), none⟩,
 ⟨(some 52), .mov (.t 61), none⟩])))))))))
 (.reg [
 ⟨(some 62), .bin .add (.t 46) (.k (.int .i64 1)), none⟩,
 ⟨(some 46), .mov (.t 62), none⟩])))))))
 (.seq
 (.seq
 (.reg [
 ⟨(some 63), .fld 15 (.t 1), none⟩,
 ⟨(some 64), .load 1 false (.t 63), none⟩,
 ⟨(some 65), .len false (.t 64), none⟩,
 ⟨(some 66), .mov (.k (.int .i64 0)), none⟩])
 (.block 4
 (.loop
 (.seq
 (.reg [
 ⟨(some 67), .bin .lss (.t 66) (.t 65), none⟩])
 (.seq
 (.cond (.t 67)
 .skip
 (.exit 4))
 (.seq
 (.block 5
 (.seq
 (.reg [
 ⟨(some 68), .idx 1 (.t 64) (.t 66), none⟩,
 ⟨(some 69), .load 1 false (.t 68), none⟩,
 ⟨(some 9), .mov (.t 69), none⟩])
 (.seq
 (.reg [
 ⟨(some 70), .mov (.t 3), none⟩,
 ⟨(some 71), .bin .add (.t 70) (.k (.int .i64 1)), none⟩,
 ⟨(some 3), .mov (.t 71), none⟩])
 (.seq
 (.reg [
 ⟨(some 72), .mov (.t 9), none⟩,
 ⟨(some 73), .len false (.t 72), none⟩,
 ⟨(some 74), .mov (.k (.int .i64 0)), none⟩])
 (.block 6
 (.loop
 (.seq
 (.reg [
 ⟨(some 75), .bin .lss (.t 74) (.t 73), none⟩])
 (.seq
 (.cond (.t 75)
 .skip
 (.exit 6))
 (.seq
 (.block 7
 (.seq
 (.reg [
 ⟨(some 76), .idx 1 (.t 72) (.t 74), none⟩,
 ⟨(some 77), .load 1 false (.t 76), none⟩,
 ⟨(some 11), .mov (.t 77), none⟩])
 (.reg [
 ⟨(some 78), .mov (.t 3), none⟩,
 ⟨(some 79), .mov (.t 11), none⟩,
 ⟨(some 80), .len false (.t 79), none⟩,
 ⟨(some 81), .bin .add (.t 80) (.k (.int .i64 1)), none⟩,
 ⟨(some 82), .bin .add (.t 78) (.t 81), none⟩,
 ⟨(some 3), .mov (.t 82), none⟩])))
 (.reg [
 ⟨(some 83), .bin .add (.t 74) (.k (.int .i64 1)), none⟩,
 ⟨(some 74), .mov (.t 83), none⟩]))))))))))
 (.reg [
 ⟨(some 84), .bin .add (.t 66) (.k (.int .i64 1)), none⟩,
 ⟨(some 66), .mov (.t 84), none⟩])))))))
 (.seq
 (.reg [
 ⟨(some 85), .mov (.t 3), none⟩,
 ⟨(some 86), .minmax false (.t 85) (.k (.int .i64 20001)), none⟩,
 ⟨(some 2), .mov (.t 86), none⟩])
 .ret)))))
theorem a19 : Go.Proofs.Try.f19.body.bind (comp Go.Proofs.Try.prog) = some A19 := by kernel_rfl
theorem r19 : compRVs Go.Proofs.Try.prog Go.Proofs.Try.f19.results.toList = some [.tmp 2] := by kernel_rfl
theorem n19 : (Go.Proofs.Try.f19.name == "runtime.NumGoroutine") = false := by decide +kernel
def E19 : Nat × ACode × Nat × List RV := (19, A19, 87, [.tmp 2])
theorem e19 : EntryOk Go.Proofs.Try.prog E19 := ⟨Go.Proofs.Try.f19, Go.Proofs.Try.func19, n19, a19, Go.Proofs.Try.ntmps19, r19⟩
/-! reedpen/reedpenref13.Things -/
def A20 : ACode :=
 (.seq
 (.reg [
 ⟨(some 1), .box (.t 0) 35, none⟩,
 ⟨(some 2), .mov (.k (.int .i64 0)), none⟩])
 (.seq
 (.regd [
 ⟨⟨(some 8), .fld 6 (.t 1), none⟩, 0, [], false⟩,
 ⟨⟨(some 9), .load 1 false (.t 8), none⟩, 1, [], false⟩,
 ⟨⟨(some 10), .build [(.int .i64 0), (.vec true []), (.bool false), (.int .i64 0), (.vec true []), (.vec true []), (.vec true []), (.vec true []), (.vec true []), (.vec true []), (.vec true []), (.vec true []), (.vec true []), (.vec true []), (.vec true []), (.vec true [])] [(6, 1, (.t 9))], none⟩, 2, [], false⟩,
 ⟨⟨(some 12), .fld 7 (.t 1), none⟩, 4, [], false⟩,
 ⟨⟨(some 13), .load 1 false (.t 12), none⟩, 5, [], true⟩,
 ⟨⟨(some 14), .len false (.t 13), none⟩, 6, [], false⟩,
 ⟨⟨(some 16), .fld 12 (.t 1), none⟩, 8, [], false⟩,
 ⟨⟨(some 17), .load 1 false (.t 16), none⟩, 9, [], true⟩,
 ⟨⟨(some 18), .len false (.t 17), none⟩, 10, [], false⟩,
 ⟨⟨(some 20), .fld 13 (.t 1), none⟩, 12, [], false⟩,
 ⟨⟨(some 21), .load 1 false (.t 20), none⟩, 13, [], true⟩,
 ⟨⟨(some 22), .len false (.t 21), none⟩, 14, [], false⟩,
 ⟨⟨(some 24), .fld 14 (.t 1), none⟩, 16, [], false⟩,
 ⟨⟨(some 25), .load 1 false (.t 24), none⟩, 17, [], true⟩,
 ⟨⟨(some 26), .len false (.t 25), none⟩, 18, [], false⟩,
 ⟨⟨(some 28), .fld 9 (.t 1), none⟩, 20, [], false⟩,
 ⟨⟨(some 29), .load 1 false (.t 28), none⟩, 21, [], true⟩,
 ⟨⟨(some 30), .len false (.t 29), none⟩, 22, [], false⟩,
 ⟨⟨(some 32), .fld 10 (.t 1), none⟩, 24, [], false⟩,
 ⟨⟨(some 33), .load 1 false (.t 32), none⟩, 25, [], true⟩,
 ⟨⟨(some 34), .len false (.t 33), none⟩, 26, [], false⟩,
 ⟨⟨(some 11), .call 16 [(.t 10)], none⟩, 3, [2, 1, 0], false⟩,
 ⟨⟨(some 15), .bin .add (.t 11) (.t 14), none⟩, 7, [], false⟩,
 ⟨⟨(some 19), .bin .add (.t 15) (.t 18), none⟩, 11, [], false⟩,
 ⟨⟨(some 23), .bin .add (.t 19) (.t 22), none⟩, 15, [], false⟩,
 ⟨⟨(some 27), .bin .add (.t 23) (.t 26), none⟩, 19, [], false⟩,
 ⟨⟨(some 31), .bin .add (.t 27) (.t 30), none⟩, 23, [], false⟩,
 ⟨⟨(some 35), .bin .add (.t 31) (.t 34), none⟩, 27, [], false⟩,
 ⟨⟨(some 3), .mov (.t 35), none⟩, 28, [], false⟩])
 (.seq
 (.seq
 (.reg [
 ⟨(some 4), .mov (.k (.int .i64 0)), none⟩])
 (.block 0
 (.loop
 (.seq
 (.seq
 (.reg [
 ⟨(some 36), .mov (.t 4), none⟩,
 ⟨(some 37), .fld 8 (.t 1), none⟩,
 ⟨(some 38), .load 1 false (.t 37), none⟩,
 ⟨(some 39), .len false (.t 38), none⟩,
 ⟨(some 40), .bin .lss (.t 36) (.t 39), none⟩])
 (.cond (.t 40)
 .skip
 (.exit 0)))
 (.seq
 (.block 1
 (.reg [
 ⟨(some 43), .mov (.t 3), none⟩,
 ⟨(some 44), .bin .add (.t 43) (.k (.int .i64 1)), none⟩,
 ⟨(some 45), .fld 8 (.t 1), none⟩,
 ⟨(some 46), .load 1 false (.t 45), none⟩,
 ⟨(some 47), .mov (.t 4), none⟩,
 ⟨(some 48), .idx 1 (.t 46) (.t 47), none⟩,
 ⟨(some 49), .load 1 false (.t 48), none⟩,
 ⟨(some 50), .len false (.t 49), none⟩,
 ⟨(some 51), .bin .add (.t 44) (.t 50), none⟩,
 ⟨(some 3), .mov (.t 51), none⟩]))
 (.reg [
 ⟨(some 41), .mov (.t 4), none⟩,
 ⟨(some 42), .bin .add (.t 41) (.k (.int .i64 1)), none⟩,
 ⟨(some 4), .mov (.t 42), none⟩]))))))
 (.seq
 (.seq
 (.reg [
 ⟨(some 5), .mov (.k (.int .i64 0)), none⟩])
 (.block 2
 (.loop
 (.seq
 (.seq
 (.reg [
 ⟨(some 52), .mov (.t 5), none⟩,
 ⟨(some 53), .fld 11 (.t 1), none⟩,
 ⟨(some 54), .load 1 false (.t 53), none⟩,
 ⟨(some 55), .len false (.t 54), none⟩,
 ⟨(some 56), .bin .lss (.t 52) (.t 55), none⟩])
 (.cond (.t 56)
 .skip
 (.exit 2)))
 (.seq
 (.block 3
 (.reg [
 ⟨(some 59), .mov (.t 3), none⟩,
 ⟨(some 60), .bin .add (.t 59) (.k (.int .i64 1)), none⟩,
 ⟨(some 61), .fld 11 (.t 1), none⟩,
 ⟨(some 62), .load 1 false (.t 61), none⟩,
 ⟨(some 63), .mov (.t 5), none⟩,
 ⟨(some 64), .idx 1 (.t 62) (.t 63), none⟩,
 ⟨(some 65), .load 1 false (.t 64), none⟩,
 ⟨(some 66), .len false (.t 65), none⟩,
 ⟨(some 67), .bin .add (.t 60) (.t 66), none⟩,
 ⟨(some 3), .mov (.t 67), none⟩]))
 (.reg [
 ⟨(some 57), .mov (.t 5), none⟩,
 ⟨(some 58), .bin .add (.t 57) (.k (.int .i64 1)), none⟩,
 ⟨(some 5), .mov (.t 58), none⟩]))))))
 (.seq
 (.seq
 (.reg [
 ⟨(some 6), .mov (.k (.int .i64 0)), none⟩])
 (.block 4
 (.loop
 (.seq
 (.seq
 (.reg [
 ⟨(some 68), .mov (.t 6), none⟩,
 ⟨(some 69), .fld 15 (.t 1), none⟩,
 ⟨(some 70), .load 1 false (.t 69), none⟩,
 ⟨(some 71), .len false (.t 70), none⟩,
 ⟨(some 72), .bin .lss (.t 68) (.t 71), none⟩])
 (.cond (.t 72)
 .skip
 (.exit 4)))
 (.seq
 (.block 5
 (.seq
 (.reg [
 ⟨(some 75), .mov (.t 3), none⟩,
 ⟨(some 76), .bin .add (.t 75) (.k (.int .i64 1)), none⟩,
 ⟨(some 3), .mov (.t 76), none⟩])
 (.seq
 (.reg [
 ⟨(some 7), .mov (.k (.int .i64 0)), none⟩])
 (.block 6
 (.loop
 (.seq
 (.seq
 (.reg [
 ⟨(some 77), .mov (.t 7), none⟩,
 ⟨(some 78), .fld 15 (.t 1), none⟩,
 ⟨(some 79), .load 1 false (.t 78), none⟩,
 ⟨(some 80), .mov (.t 6), none⟩,
 ⟨(some 81), .idx 1 (.t 79) (.t 80), none⟩,
 ⟨(some 82), .load 1 false (.t 81), none⟩,
 ⟨(some 83), .len false (.t 82), none⟩,
 ⟨(some 84), .bin .lss (.t 77) (.t 83), none⟩])
 (.cond (.t 84)
 .skip
 (.exit 6)))
 (.seq
 (.block 7
 (.reg [
 ⟨(some 87), .mov (.t 3), none⟩,
 ⟨(some 88), .bin .add (.t 87) (.k (.int .i64 1)), none⟩,
 ⟨(some 89), .fld 15 (.t 1), none⟩,
 ⟨(some 90), .load 1 false (.t 89), none⟩,
 ⟨(some 91), .mov (.t 6), none⟩,
 ⟨(some 92), .idx 1 (.t 90) (.t 91), none⟩,
 ⟨(some 93), .load 1 false (.t 92), none⟩,
 ⟨(some 94), .mov (.t 7), none⟩,
 ⟨(some 95), .idx 1 (.t 93) (.t 94), none⟩,
 ⟨(some 96), .load 1 false (.t 95), none⟩,
 ⟨(some 97), .len false (.t 96), none⟩,
 ⟨(some 98), .bin .add (.t 88) (.t 97), none⟩,
 ⟨(some 3), .mov (.t 98), none⟩]))
 (.reg [
 ⟨(some 85), .mov (.t 7), none⟩,
 ⟨(some 86), .bin .add (.t 85) (.k (.int .i64 1)), none⟩,
 ⟨(some 7), .mov (.t 86), none⟩]))))))))
 (.reg [
 ⟨(some 73), .mov (.t 6), none⟩,
 ⟨(some 74), .bin .add (.t 73) (.k (.int .i64 1)), none⟩,
 ⟨(some 6), .mov (.t 74), none⟩]))))))
 (.seq
 (.seq
 (.reg [
 ⟨(some 99), .mov (.t 3), none⟩,
 ⟨(some 100), .bin .gtr (.t 99) (.k (.int .i64 20001)), none⟩])
 (.cond (.t 100)
 (.seq
 (.reg [
 ⟨(some 2), .mov (.k (.int .i64 20001)), none⟩])
 .ret)
 .skip))
 (.seq
 (.reg [
 ⟨(some 101), .mov (.t 3), none⟩,
 ⟨(some 2), .mov (.t 101), none⟩])
 .ret)))))))
theorem a20 : Go.Proofs.Try.f20.body.bind (comp Go.Proofs.Try.prog) = some A20 := by kernel_rfl
theorem r20 : compRVs Go.Proofs.Try.prog Go.Proofs.Try.f20.results.toList = some [.tmp 2] := by kernel_rfl
theorem n20 : (Go.Proofs.Try.f20.name == "runtime.NumGoroutine") = false := by decide +kernel
def E20 : Nat × ACode × Nat × List RV := (20, A20, 102, [.tmp 2])
theorem e20 : EntryOk Go.Proofs.Try.prog E20 := ⟨Go.Proofs.Try.f20, Go.Proofs.Try.func20, n20, a20, Go.Proofs.Try.ntmps20, r20⟩
/-! reedpen/gpos.Read -/
def A21 : ACode :=
 (.seq
 (.reg [
 ⟨(some 6), .new [(.int .i64 0), (.vec true []), (.bool false), (.int .i64 0), (.vec true []), (.vec true []), (.vec true []), (.vec true []), (.vec true []), (.vec true []), (.vec true []), (.vec true []), (.vec true []), (.vec true []), (.vec true []), (.vec true [])] 35, none⟩,
 ⟨(some 7), .new [(.bool false)] 4, none⟩])
 (.seq
 (.dfr 8 39 [(.t 6), (.t 7)])
 (.seq
 (.reg [
 ⟨(some 9), .mov (.t 2), none⟩,
 ⟨(some 10), .bin .geq (.t 9) (.k (.int .i64 1)), none⟩,
 ⟨(some 11), .mov (.t 10), none⟩,
 ⟨(some 12), .mov (.t 2), (some (11, true))⟩,
 ⟨(some 13), .bin .leq (.t 12) (.k (.int .i64 9)), (some (11, true))⟩,
 ⟨(some 14), .pick (.t 11) (.t 13) (.k (.bool false)), none⟩,
 ⟨(some 15), .call 40 [(.t 14)], none⟩])
 (.seq
 (.reg [
 ⟨(some 16), .mov (.t 0), none⟩,
 ⟨(some 17), .mov (.t 1), none⟩,
 ⟨(some 18), .mov (.t 2), none⟩,
 ⟨(some 19), .call 41 [(.t 16), (.t 17), (.t 18)], none⟩,
 ⟨none, .store 16 (.t 6) (.t 19), none⟩,
 ⟨none, .store 1 (.t 7) (.k (.bool true)), none⟩])
 .ret))))
theorem a21 : Go.Proofs.Try.f21.body.bind (comp Go.Proofs.Try.prog) = some A21 := by kernel_rfl
theorem r21 : compRVs Go.Proofs.Try.prog Go.Proofs.Try.f21.results.toList = some [.cell 6 16 true, .cell 7 1 false] := by kernel_rfl
theorem n21 : (Go.Proofs.Try.f21.name == "runtime.NumGoroutine") = false := by decide +kernel
def E21 : Nat × ACode × Nat × List RV := (21, A21, 20, [.cell 6 16 true, .cell 7 1 false])
theorem e21 : EntryOk Go.Proofs.Try.prog E21 := ⟨Go.Proofs.Try.f21, Go.Proofs.Try.func21, n21, a21, Go.Proofs.Try.ntmps21, r21⟩
/-! reedpen/gsub.Things$1 -/
def A38 : ACode :=
 (.reg [
 ⟨(some 3), .load 1 false (.t 1), none⟩,
 ⟨(some 4), .mov (.t 0), none⟩,
 ⟨(some 5), .bin .add (.t 3) (.t 4), none⟩,
 ⟨(some 6), .minmax false (.t 5) (.k (.int .i64 20001)), none⟩,
 ⟨none, .store 1 (.t 1) (.t 6), none⟩])
theorem a38 : Go.Proofs.Try.f38.body.bind (comp Go.Proofs.Try.prog) = some A38 := by kernel_rfl
theorem r38 : compRVs Go.Proofs.Try.prog Go.Proofs.Try.f38.results.toList = some [] := by kernel_rfl
theorem n38 : (Go.Proofs.Try.f38.name == "runtime.NumGoroutine") = false := by decide +kernel
def E38 : Nat × ACode × Nat × List RV := (38, A38, 7, [])
theorem e38 : EntryOk Go.Proofs.Try.prog E38 := ⟨Go.Proofs.Try.f38, Go.Proofs.Try.func38, n38, a38, Go.Proofs.Try.ntmps38, r38⟩
/-! reedpen/gpos.Read$1 -/
def A39 : ACode :=
 (.seq
 (.reg [
 ⟨(some 5), .stuck, none⟩,
 ⟨(some 2), .mov (.t 5), none⟩])
 (.seq
 (.reg [
 ⟨(some 6), .mov (.t 2), none⟩,
 ⟨(some 7), .ifnil true (.t 6), none⟩])
 (.cond (.t 7)
 (.seq
 (.seq
 (.reg [
 ⟨(some 9), .mov (.t 2), none⟩,
 ⟨(some 10), .tas 91 (.t 9), none⟩,
 ⟨(some 8), .mov (.t 10), none⟩,
 ⟨(some 11), .ext 0 (.t 8), none⟩,
 ⟨(some 12), .ext 1 (.t 8), none⟩,
 ⟨(some 3), .new [] 91, none⟩,
 ⟨none, .store 0 (.t 3) (.t 11), none⟩,
 ⟨(some 4), .mov (.t 12), none⟩])
 (.seq
 (.reg [
 ⟨(some 13), .mov (.t 4), none⟩,
 ⟨(some 14), .un .not (.t 13), none⟩])
 (.cond (.t 14)
 (.reg [
 ⟨(some 15), .mov (.t 2), none⟩,
 ⟨none, .pan (.t 15), none⟩])
 .skip)))
 (.reg [
 ⟨(some 16), .build [(.int .i64 0), (.vec true []), (.bool false), (.int .i64 0), (.vec true []), (.vec true []), (.vec true []), (.vec true []), (.vec true []), (.vec true []), (.vec true []), (.vec true []), (.vec true []), (.vec true []), (.vec true []), (.vec true [])] [], none⟩,
 ⟨none, .store 16 (.t 0) (.t 16), none⟩,
 ⟨none, .store 1 (.t 1) (.k (.bool false)), none⟩]))
 .skip)))
theorem a39 : Go.Proofs.Try.f39.body.bind (comp Go.Proofs.Try.prog) = some A39 := by kernel_rfl
theorem r39 : compRVs Go.Proofs.Try.prog Go.Proofs.Try.f39.results.toList = some [] := by kernel_rfl
theorem n39 : (Go.Proofs.Try.f39.name == "runtime.NumGoroutine") = false := by decide +kernel
def E39 : Nat × ACode × Nat × List RV := (39, A39, 17, [])
theorem e39 : EntryOk Go.Proofs.Try.prog E39 := ⟨Go.Proofs.Try.f39, Go.Proofs.Try.func39, n39, a39, Go.Proofs.Try.ntmps39, r39⟩
/-! reedpen/gpos.must -/
def A40 : ACode :=
 (.seq
 (.reg [
 ⟨(some 2), .mov (.t 0), none⟩,
 ⟨(some 3), .un .not (.t 2), none⟩])
 (.cond (.t 3)
 (.reg [
 ⟨(some 4), .build [] [], none⟩,
 ⟨(some 5), .mkif 91 (.t 4), none⟩,
 ⟨none, .pan (.t 5), none⟩])
 .skip))
theorem a40 : Go.Proofs.Try.f40.body.bind (comp Go.Proofs.Try.prog) = some A40 := by kernel_rfl
theorem r40 : compRVs Go.Proofs.Try.prog Go.Proofs.Try.f40.results.toList = some [] := by kernel_rfl
theorem n40 : (Go.Proofs.Try.f40.name == "runtime.NumGoroutine") = false := by decide +kernel
def E40 : Nat × ACode × Nat × List RV := (40, A40, 6, [])
theorem e40 : EntryOk Go.Proofs.Try.prog E40 := ⟨Go.Proofs.Try.f40, Go.Proofs.Try.func40, n40, a40, Go.Proofs.Try.ntmps40, r40⟩
/-! reedpen/gpos.read -/
def A41 : ACode :=
 (.seq
 (.reg [
 ⟨(some 6), .new [(.int .i64 0), (.vec true []), (.bool false), (.int .i64 0), (.vec true []), (.vec true []), (.vec true []), (.vec true []), (.vec true []), (.vec true []), (.vec true []), (.vec true []), (.vec true []), (.vec true []), (.vec true []), (.vec true [])] 35, none⟩])
 (.seq
 (.reg [
 ⟨(some 9), .mov (.t 0), none⟩,
 ⟨(some 10), .mov (.t 1), none⟩,
 ⟨(some 11), .mov (.t 1), none⟩,
 ⟨(some 12), .build [(.vec true []), (.int .i64 0), (.int .i64 0)] [(0, 1, (.t 9)), (1, 1, (.t 10)), (2, 1, (.t 11))], none⟩,
 ⟨(some 13), .box (.t 12) 123, none⟩,
 ⟨(some 7), .mov (.t 13), none⟩])
 (.seq
 (.seq
 (.reg [
 ⟨(some 14), .mov (.t 2), none⟩,
 ⟨(some 15), .bin .add (.t 14) (.k (.int .i64 10)), none⟩])
 (.block 0
 (.seq
 (.reg [
 ⟨(some 17), .bin .eql (.t 15) (.k (.int .i64 17)), none⟩,
 ⟨(some 16), .mov (.t 17), none⟩])
 (.cond (.t 16)
 (.seq
 (.reg [
 ⟨(some 18), .mov (.t 7), none⟩,
 ⟨(some 19), .mov (.t 2), none⟩,
 ⟨(some 20), .call 64 [(.t 18), (.t 19), (.k (.fn (.func 46) [] []))], none⟩,
 ⟨none, .store 16 (.t 6) (.t 20), none⟩])
 .ret)
 (.seq
 (.reg [
 ⟨(some 22), .bin .eql (.t 15) (.k (.int .i64 18)), none⟩,
 ⟨(some 21), .mov (.t 22), none⟩])
 (.cond (.t 21)
 (.seq
 (.reg [
 ⟨(some 23), .mov (.t 7), none⟩,
 ⟨(some 24), .mov (.t 2), none⟩,
 ⟨(some 25), .call 64 [(.t 23), (.t 24), (.k (.fn (.func 47) [] []))], none⟩,
 ⟨none, .store 16 (.t 6) (.t 25), none⟩])
 .ret)
 .skip))))))
 (.seq
 (.reg [
 ⟨(some 26), .mov (.t 2), none⟩,
 ⟨(some 27), .bin .geq (.t 26) (.k (.int .i64 1)), none⟩,
 ⟨(some 28), .mov (.t 27), none⟩,
 ⟨(some 29), .mov (.t 2), (some (28, true))⟩,
 ⟨(some 30), .bin .leq (.t 29) (.k (.int .i64 9)), (some (28, true))⟩,
 ⟨(some 31), .pick (.t 28) (.t 30) (.k (.bool false)), none⟩,
 ⟨(some 32), .call 40 [(.t 31)], none⟩])
 (.seq
 (.reg [
 ⟨(some 33), .mov (.t 7), none⟩,
 ⟨(some 34), .call 65 [(.t 33)], none⟩,
 ⟨(some 8), .mov (.t 34), none⟩])
 (.seq
 (.block 1
 (.seq
 (.reg [
 ⟨(some 36), .mov (.t 2), none⟩,
 ⟨(some 37), .bin .leq (.t 36) (.k (.int .i64 2)), none⟩,
 ⟨(some 38), .mov (.t 37), none⟩,
 ⟨(some 39), .mov (.t 8), (some (38, true))⟩,
 ⟨(some 40), .bin .eql (.t 39) (.k (.int .i64 1)), (some (38, true))⟩,
 ⟨(some 41), .mov (.t 40), (some (38, true))⟩,
 ⟨(some 42), .mov (.t 8), (some (41, false))⟩,
 ⟨(some 43), .bin .eql (.t 42) (.k (.int .i64 2)), (some (41, false))⟩,
 ⟨(some 44), .pick (.t 41) (.k (.bool true)) (.t 43), (some (38, true))⟩,
 ⟨(some 45), .pick (.t 38) (.t 44) (.k (.bool false)), none⟩,
 ⟨(some 35), .mov (.t 45), none⟩])
 (.cond (.t 35)
 (.seq
 (.seq
 (.reg [
 ⟨(some 46), .mov (.t 2), none⟩,
 ⟨(some 47), .bin .eql (.t 46) (.k (.int .i64 1)), none⟩])
 (.cond (.t 47)
 (.seq
 (.reg [
 ⟨(some 48), .mov (.t 7), none⟩,
 ⟨(some 49), .mov (.t 8), none⟩,
 ⟨(some 50), .call 66 [(.t 48), (.t 49)], none⟩,
 ⟨none, .store 16 (.t 6) (.t 50), none⟩])
 .ret)
 .skip))
 (.seq
 (.reg [
 ⟨(some 51), .mov (.t 7), none⟩,
 ⟨(some 52), .mov (.t 8), none⟩,
 ⟨(some 53), .call 67 [(.t 51), (.t 52)], none⟩,
 ⟨none, .store 16 (.t 6) (.t 53), none⟩])
 .ret))
 (.seq
 (.reg [
 ⟨(some 55), .mov (.t 8), none⟩,
 ⟨(some 56), .bin .neq (.t 55) (.k (.int .i64 1)), none⟩,
 ⟨(some 54), .mov (.t 56), none⟩])
 (.cond (.t 54)
 (.reg [
 ⟨(some 57), .call 40 [(.k (.bool false))], none⟩])
 (.seq
 (.reg [
 ⟨(some 59), .mov (.t 2), none⟩,
 ⟨(some 60), .bin .eql (.t 59) (.k (.int .i64 9)), none⟩,
 ⟨(some 58), .mov (.t 60), none⟩])
 (.cond (.t 58)
 (.seq
 (.reg [
 ⟨(some 61), .mov (.t 7), none⟩,
 ⟨(some 62), .call 68 [(.t 61)], none⟩,
 ⟨none, .store 16 (.t 6) (.t 62), none⟩])
 .ret)
 (.seq
 (.reg [
 ⟨(some 64), .mov (.t 2), none⟩,
 ⟨(some 65), .bin .eql (.t 64) (.k (.int .i64 3)), none⟩,
 ⟨(some 63), .mov (.t 65), none⟩])
 (.cond (.t 63)
 (.seq
 (.reg [
 ⟨(some 66), .mov (.t 7), none⟩,
 ⟨(some 67), .call 69 [(.t 66)], none⟩,
 ⟨none, .store 16 (.t 6) (.t 67), none⟩])
 .ret)
 .skip)))))))))
 (.seq
 (.reg [
 ⟨(some 68), .mov (.t 7), none⟩,
 ⟨(some 69), .mov (.t 2), none⟩,
 ⟨(some 70), .call 70 [(.t 68), (.t 69)], none⟩,
 ⟨none, .store 16 (.t 6) (.t 70), none⟩])
 .ret)))))))
theorem a41 : Go.Proofs.Try.f41.body.bind (comp Go.Proofs.Try.prog) = some A41 := by kernel_rfl
theorem r41 : compRVs Go.Proofs.Try.prog Go.Proofs.Try.f41.results.toList = some [.cell 6 16 true] := by kernel_rfl
theorem n41 : (Go.Proofs.Try.f41.name == "runtime.NumGoroutine") = false := by decide +kernel
def E41 : Nat × ACode × Nat × List RV := (41, A41, 71, [.cell 6 16 true])
theorem e41 : EntryOk Go.Proofs.Try.prog E41 := ⟨Go.Proofs.Try.f41, Go.Proofs.Try.func41, n41, a41, Go.Proofs.Try.ntmps41, r41⟩
/-! reedpen/context.Context -/
def A46 : ACode :=
 (.seq
 (.reg [
 ⟨(some 4), .mov (.k (.vec true [])), none⟩,
 ⟨(some 5), .mov (.k (.bool false)), none⟩])
 (.seq
 (.reg [
 ⟨(some 6), .mov (.t 0), none⟩,
 ⟨(some 7), .mov (.t 1), none⟩,
 ⟨(some 8), .call 71 [(.t 6), (.t 7), (.k (.bool false))], none⟩,
 ⟨(some 9), .ext 0 (.t 8), none⟩,
 ⟨(some 10), .ext 1 (.t 8), none⟩,
 ⟨(some 4), .mov (.t 9), none⟩,
 ⟨(some 5), .mov (.t 10), none⟩])
 .ret))
theorem a46 : Go.Proofs.Try.f46.body.bind (comp Go.Proofs.Try.prog) = some A46 := by kernel_rfl
theorem r46 : compRVs Go.Proofs.Try.prog Go.Proofs.Try.f46.results.toList = some [.tmp 4, .tmp 5] := by kernel_rfl
theorem n46 : (Go.Proofs.Try.f46.name == "runtime.NumGoroutine") = false := by decide +kernel
def E46 : Nat × ACode × Nat × List RV := (46, A46, 11, [.tmp 4, .tmp 5])
theorem e46 : EntryOk Go.Proofs.Try.prog E46 := ⟨Go.Proofs.Try.f46, Go.Proofs.Try.func46, n46, a46, Go.Proofs.Try.ntmps46, r46⟩
/-! reedpen/context.Chain -/
def A47 : ACode :=
 (.seq
 (.reg [
 ⟨(some 4), .mov (.k (.vec true [])), none⟩,
 ⟨(some 5), .mov (.k (.bool false)), none⟩])
 (.seq
 (.reg [
 ⟨(some 6), .mov (.t 0), none⟩,
 ⟨(some 7), .mov (.t 1), none⟩,
 ⟨(some 8), .call 71 [(.t 6), (.t 7), (.k (.bool true))], none⟩,
 ⟨(some 9), .ext 0 (.t 8), none⟩,
 ⟨(some 10), .ext 1 (.t 8), none⟩,
 ⟨(some 4), .mov (.t 9), none⟩,
 ⟨(some 5), .mov (.t 10), none⟩])
 .ret))
theorem a47 : Go.Proofs.Try.f47.body.bind (comp Go.Proofs.Try.prog) = some A47 := by kernel_rfl
theorem r47 : compRVs Go.Proofs.Try.prog Go.Proofs.Try.f47.results.toList = some [.tmp 4, .tmp 5] := by kernel_rfl
theorem n47 : (Go.Proofs.Try.f47.name == "runtime.NumGoroutine") = false := by decide +kernel
def E47 : Nat × ACode × Nat × List RV := (47, A47, 11, [.tmp 4, .tmp 5])
theorem e47 : EntryOk Go.Proofs.Try.prog E47 := ⟨Go.Proofs.Try.f47, Go.Proofs.Try.func47, n47, a47, Go.Proofs.Try.ntmps47, r47⟩
/-! (*reedpen/gpos.reader).contexts -/
def A64 : ACode :=
 (.seq
 (.reg [
 ⟨(some 6), .new [(.int .i64 0), (.vec true []), (.bool false), (.int .i64 0), (.vec true []), (.vec true []), (.vec true []), (.vec true []), (.vec true []), (.vec true []), (.vec true []), (.vec true []), (.vec true []), (.vec true []), (.vec true []), (.vec true [])] 35, none⟩])
 (.seq
 (.regd [
 ⟨⟨(some 10), .mov (.t 2), none⟩, 0, [], false⟩,
 ⟨⟨(some 11), .mov (.t 0), none⟩, 1, [], false⟩,
 ⟨⟨(some 12), .nchk (.t 11), none⟩, 2, [], false⟩,
 ⟨⟨(some 13), .fld 0 (.t 12), none⟩, 3, [], false⟩,
 ⟨⟨(some 14), .load 1 false (.t 13), none⟩, 4, [], false⟩,
 ⟨⟨(some 15), .mov (.t 0), none⟩, 5, [], false⟩,
 ⟨⟨(some 16), .nchk (.t 15), none⟩, 6, [], false⟩,
 ⟨⟨(some 17), .fld 1 (.t 16), none⟩, 7, [], false⟩,
 ⟨⟨(some 18), .load 1 false (.t 17), none⟩, 8, [], false⟩,
 ⟨⟨(some 19), .callv (.t 10) [(.t 14), (.t 18)], none⟩, 9, [0, 4, 3, 2, 1, 8, 7, 6, 5], false⟩,
 ⟨⟨(some 9), .mov (.t 19), none⟩, 10, [], false⟩,
 ⟨⟨(some 20), .ext 0 (.t 9), none⟩, 11, [], false⟩,
 ⟨⟨(some 21), .ext 1 (.t 9), none⟩, 12, [], false⟩,
 ⟨⟨(some 7), .mov (.t 20), none⟩, 13, [], false⟩,
 ⟨⟨(some 8), .mov (.t 21), none⟩, 14, [], false⟩])
 (.seq
 (.reg [
 ⟨(some 22), .mov (.t 8), none⟩,
 ⟨(some 23), .call 40 [(.t 22)], none⟩])
 (.seq
 (.reg [
 ⟨(some 24), .mov (.t 1), none⟩,
 ⟨(some 25), .bin .add (.t 24) (.k (.int .i64 10)), none⟩,
 ⟨(some 26), .mov (.t 7), none⟩,
 ⟨(some 27), .build [(.int .i64 0), (.vec true []), (.bool false), (.int .i64 0), (.vec true []), (.vec true []), (.vec true []), (.vec true []), (.vec true []), (.vec true []), (.vec true []), (.vec true []), (.vec true []), (.vec true []), (.vec true []), (.vec true [])] [(0, 1, (.t 25)), (6, 1, (.t 26))], none⟩,
 ⟨none, .store 16 (.t 6) (.t 27), none⟩])
 .ret))))
theorem a64 : Go.Proofs.Try.f64.body.bind (comp Go.Proofs.Try.prog) = some A64 := by kernel_rfl
theorem r64 : compRVs Go.Proofs.Try.prog Go.Proofs.Try.f64.results.toList = some [.cell 6 16 true] := by kernel_rfl
theorem n64 : (Go.Proofs.Try.f64.name == "runtime.NumGoroutine") = false := by decide +kernel
def E64 : Nat × ACode × Nat × List RV := (64, A64, 28, [.cell 6 16 true])
theorem e64 : EntryOk Go.Proofs.Try.prog E64 := ⟨Go.Proofs.Try.f64, Go.Proofs.Try.func64, n64, a64, Go.Proofs.Try.ntmps64, r64⟩
/-! (*reedpen/gpos.reader).number -/
def A65 : ACode :=
 (.seq
 (.reg [
 ⟨(some 2), .mov (.k (.int .i64 0)), none⟩])
 (.seq
 (.regd [
 ⟨⟨(some 6), .mov (.t 0), none⟩, 0, [], false⟩,
 ⟨⟨(some 7), .nchk (.t 6), none⟩, 1, [], false⟩,
 ⟨⟨(some 8), .fld 0 (.t 7), none⟩, 2, [], false⟩,
 ⟨⟨(some 9), .load 1 false (.t 8), none⟩, 3, [], false⟩,
 ⟨⟨(some 10), .mov (.t 0), none⟩, 4, [], false⟩,
 ⟨⟨(some 11), .nchk (.t 10), none⟩, 5, [], false⟩,
 ⟨⟨(some 12), .fld 2 (.t 11), none⟩, 6, [], false⟩,
 ⟨⟨(some 13), .load 1 false (.t 12), none⟩, 7, [], false⟩,
 ⟨⟨(some 14), .call 72 [(.t 9), (.t 13)], none⟩, 8, [3, 2, 1, 0, 7, 6, 5, 4], false⟩,
 ⟨⟨(some 5), .mov (.t 14), none⟩, 9, [], false⟩,
 ⟨⟨(some 15), .ext 0 (.t 5), none⟩, 10, [], false⟩,
 ⟨⟨(some 16), .ext 1 (.t 5), none⟩, 11, [], false⟩,
 ⟨⟨(some 3), .mov (.t 15), none⟩, 12, [], false⟩,
 ⟨⟨(some 4), .mov (.t 16), none⟩, 13, [], false⟩])
 (.seq
 (.reg [
 ⟨(some 17), .mov (.t 4), none⟩,
 ⟨(some 18), .call 40 [(.t 17)], none⟩])
 (.seq
 (.reg [
 ⟨(some 19), .mov (.t 0), none⟩,
 ⟨(some 20), .nchk (.t 19), none⟩,
 ⟨(some 21), .fld 2 (.t 20), none⟩,
 ⟨(some 22), .load 1 false (.t 21), none⟩,
 ⟨(some 23), .bin .add (.t 22) (.k (.int .i64 2)), none⟩,
 ⟨(some 24), .nchk (.t 19), none⟩,
 ⟨(some 25), .fld 2 (.t 24), none⟩,
 ⟨none, .store 1 (.t 25) (.t 23), none⟩])
 (.seq
 (.reg [
 ⟨(some 26), .mov (.t 3), none⟩,
 ⟨(some 2), .mov (.t 26), none⟩])
 .ret)))))
theorem a65 : Go.Proofs.Try.f65.body.bind (comp Go.Proofs.Try.prog) = some A65 := by kernel_rfl
theorem r65 : compRVs Go.Proofs.Try.prog Go.Proofs.Try.f65.results.toList = some [.tmp 2] := by kernel_rfl
theorem n65 : (Go.Proofs.Try.f65.name == "runtime.NumGoroutine") = false := by decide +kernel
def E65 : Nat × ACode × Nat × List RV := (65, A65, 27, [.tmp 2])
theorem e65 : EntryOk Go.Proofs.Try.prog E65 := ⟨Go.Proofs.Try.f65, Go.Proofs.Try.func65, n65, a65, Go.Proofs.Try.ntmps65, r65⟩
/-! (*reedpen/gpos.reader).adjust -/
def A66 : ACode :=
 (.seq
 (.reg [
 ⟨(some 4), .new [(.int .i64 0), (.vec true []), (.bool false), (.int .i64 0), (.vec true []), (.vec true []), (.vec true []), (.vec true []), (.vec true []), (.vec true []), (.vec true []), (.vec true []), (.vec true []), (.vec true []), (.vec true []), (.vec true [])] 35, none⟩])
 (.seq
 (.reg [
 ⟨(some 8), .mov (.t 0), none⟩,
 ⟨(some 9), .call 84 [(.t 8)], none⟩,
 ⟨(some 10), .build [(.int .i64 0), (.vec true []), (.bool false), (.int .i64 0), (.vec true []), (.vec true []), (.vec true []), (.vec true []), (.vec true []), (.vec true []), (.vec true []), (.vec true []), (.vec true []), (.vec true []), (.vec true []), (.vec true [])] [(0, 1, (.k (.int .i64 11))), (1, 1, (.t 9))], none⟩,
 ⟨(some 5), .new [(.int .i64 0), (.vec true []), (.bool false), (.int .i64 0), (.vec true []), (.vec true []), (.vec true []), (.vec true []), (.vec true []), (.vec true []), (.vec true []), (.vec true []), (.vec true []), (.vec true []), (.vec true []), (.vec true [])] 35, none⟩,
 ⟨none, .store 16 (.t 5) (.t 10), none⟩])
 (.seq
 (.reg [
 ⟨(some 11), .mov (.t 0), none⟩,
 ⟨(some 12), .call 85 [(.t 11)], none⟩,
 ⟨(some 6), .mov (.t 12), none⟩])
 (.seq
 (.reg [
 ⟨(some 7), .mov (.k (.int .i64 1)), none⟩])
 (.seq
 (.seq
 (.reg [
 ⟨(some 13), .mov (.t 1), none⟩,
 ⟨(some 14), .bin .eql (.t 13) (.k (.int .i64 2)), none⟩])
 (.cond (.t 14)
 (.seq
 (.reg [
 ⟨(some 15), .mov (.t 0), none⟩,
 ⟨(some 16), .fld 1 (.t 5), none⟩,
 ⟨(some 17), .load 1 false (.t 16), none⟩,
 ⟨(some 18), .call 87 [(.t 17)], none⟩,
 ⟨(some 19), .call 86 [(.t 15), (.t 18)], none⟩,
 ⟨(some 7), .mov (.t 19), none⟩])
 (.reg [
 ⟨(some 20), .mov (.t 7), none⟩,
 ⟨(some 21), .bin .leq (.t 20) (.k (.int .i64 1024)), none⟩,
 ⟨(some 22), .call 40 [(.t 21)], none⟩]))
 .skip))
 (.seq
 (.seq
 (.reg [
 ⟨(some 23), .mov (.t 7), none⟩,
 ⟨(some 24), .mov (.k (.int .i64 0)), none⟩])
 (.block 0
 (.loop
 (.seq
 (.reg [
 ⟨(some 25), .bin .lss (.t 24) (.t 23), none⟩])
 (.seq
 (.cond (.t 25)
 .skip
 (.exit 0))
 (.seq
 (.block 1
 (.regd [
 ⟨⟨(some 26), .fld 7 (.t 5), none⟩, 0, [], false⟩,
 ⟨⟨(some 27), .load 1 false (.t 26), none⟩, 1, [], true⟩,
 ⟨⟨(some 28), .mov (.t 6), none⟩, 2, [], false⟩,
 ⟨⟨(some 29), .mov (.t 0), none⟩, 3, [], false⟩,
 ⟨⟨(some 30), .callv (.t 28) [(.t 29)], none⟩, 4, [2, 3], false⟩,
 ⟨⟨(some 31), .lits 4 89 [(.t 30)], none⟩, 5, [], false⟩,
 ⟨⟨(some 32), .app 4 32 89 (.t 27) (.t 31), none⟩, 6, [1, 0, 5, 4, 2, 3], false⟩,
 ⟨⟨(some 33), .fld 7 (.t 5), none⟩, 7, [], false⟩,
 ⟨⟨none, .store 1 (.t 33) (.t 32), none⟩, 8, [7, 0, 1, 2, 3, 4, 5, 6], false⟩]))
 (.reg [
 ⟨(some 34), .bin .add (.t 24) (.k (.int .i64 1)), none⟩,
 ⟨(some 24), .mov (.t 34), none⟩])))))))
 (.seq
 (.reg [
 ⟨(some 35), .load 16 true (.t 5), none⟩,
 ⟨none, .store 16 (.t 4) (.t 35), none⟩])
 .ret)))))))
theorem a66 : Go.Proofs.Try.f66.body.bind (comp Go.Proofs.Try.prog) = some A66 := by kernel_rfl
theorem r66 : compRVs Go.Proofs.Try.prog Go.Proofs.Try.f66.results.toList = some [.cell 4 16 true] := by kernel_rfl
theorem n66 : (Go.Proofs.Try.f66.name == "runtime.NumGoroutine") = false := by decide +kernel
def E66 : Nat × ACode × Nat × List RV := (66, A66, 36, [.cell 4 16 true])
theorem e66 : EntryOk Go.Proofs.Try.prog E66 := ⟨Go.Proofs.Try.f66, Go.Proofs.Try.func66, n66, a66, Go.Proofs.Try.ntmps66, r66⟩
/-! (*reedpen/gpos.reader).pair -/
def A67 : ACode :=
 (.seq
 (.reg [
 ⟨(some 4), .new [(.int .i64 0), (.vec true []), (.bool false), (.int .i64 0), (.vec true []), (.vec true []), (.vec true []), (.vec true []), (.vec true []), (.vec true []), (.vec true []), (.vec true []), (.vec true []), (.vec true []), (.vec true []), (.vec true [])] 35, none⟩])
 (.seq
 (.reg [
 ⟨(some 20), .mov (.t 0), none⟩,
 ⟨(some 21), .call 84 [(.t 20)], none⟩,
 ⟨(some 22), .build [(.int .i64 0), (.vec true []), (.bool false), (.int .i64 0), (.vec true []), (.vec true []), (.vec true []), (.vec true []), (.vec true []), (.vec true []), (.vec true []), (.vec true []), (.vec true []), (.vec true []), (.vec true []), (.vec true [])] [(0, 1, (.k (.int .i64 12))), (1, 1, (.t 21))], none⟩,
 ⟨(some 5), .new [(.int .i64 0), (.vec true []), (.bool false), (.int .i64 0), (.vec true []), (.vec true []), (.vec true []), (.vec true []), (.vec true []), (.vec true []), (.vec true []), (.vec true []), (.vec true []), (.vec true []), (.vec true []), (.vec true [])] 35, none⟩,
 ⟨none, .store 16 (.t 5) (.t 22), none⟩])
 (.seq
 (.reg [
 ⟨(some 23), .mov (.t 0), none⟩,
 ⟨(some 24), .call 85 [(.t 23)], none⟩,
 ⟨(some 25), .mov (.t 0), none⟩,
 ⟨(some 26), .call 85 [(.t 25)], none⟩,
 ⟨(some 6), .mov (.t 24), none⟩,
 ⟨(some 7), .mov (.t 26), none⟩])
 (.seq
 (.seq
 (.reg [
 ⟨(some 27), .mov (.t 1), none⟩,
 ⟨(some 28), .bin .eql (.t 27) (.k (.int .i64 2)), none⟩])
 (.cond (.t 28)
 (.seq
 (.reg [
 ⟨(some 29), .mov (.t 0), none⟩,
 ⟨(some 30), .call 88 [(.t 29)], none⟩,
 ⟨(some 31), .mov (.t 0), none⟩,
 ⟨(some 32), .call 88 [(.t 31)], none⟩,
 ⟨(some 33), .fld 9 (.t 5), none⟩,
 ⟨none, .store 1 (.t 33) (.t 30), none⟩,
 ⟨(some 34), .fld 10 (.t 5), none⟩,
 ⟨none, .store 1 (.t 34) (.t 32), none⟩])
 (.seq
 (.reg [
 ⟨(some 35), .mov (.t 0), none⟩,
 ⟨(some 36), .call 89 [(.t 35), (.k (.int .i64 1)), (.k (.int .i64 64))], none⟩,
 ⟨(some 37), .mov (.t 0), none⟩,
 ⟨(some 38), .call 89 [(.t 37), (.k (.int .i64 1)), (.k (.int .i64 64))], none⟩,
 ⟨(some 8), .mov (.t 36), none⟩,
 ⟨(some 9), .mov (.t 38), none⟩])
 (.seq
 (.seq
 (.reg [
 ⟨(some 39), .mov (.t 8), none⟩,
 ⟨(some 40), .mov (.k (.int .i64 0)), none⟩])
 (.block 0
 (.loop
 (.seq
 (.reg [
 ⟨(some 41), .bin .lss (.t 40) (.t 39), none⟩])
 (.seq
 (.cond (.t 41)
 .skip
 (.exit 0))
 (.seq
 (.block 1
 (.seq
 (.reg [
 ⟨(some 10), .mov (.k (.vec true [])), none⟩])
 (.seq
 (.seq
 (.reg [
 ⟨(some 42), .mov (.t 9), none⟩,
 ⟨(some 43), .mov (.k (.int .i64 0)), none⟩])
 (.block 2
 (.loop
 (.seq
 (.reg [
 ⟨(some 44), .bin .lss (.t 43) (.t 42), none⟩])
 (.seq
 (.cond (.t 44)
 .skip
 (.exit 2))
 (.seq
 (.block 3
 (.seq
 (.reg [
 ⟨(some 45), .mov (.t 6), none⟩,
 ⟨(some 46), .mov (.t 0), none⟩,
 ⟨(some 47), .callv (.t 45) [(.t 46)], none⟩,
 ⟨(some 48), .mov (.t 7), none⟩,
 ⟨(some 49), .mov (.t 0), none⟩,
 ⟨(some 50), .callv (.t 48) [(.t 49)], none⟩,
 ⟨(some 11), .new [(.int .i64 0), (.int .i64 0), (.int .i64 0), (.int .i64 0)] 89, none⟩,
 ⟨(some 12), .new [(.int .i64 0), (.int .i64 0), (.int .i64 0), (.int .i64 0)] 89, none⟩,
 ⟨none, .store 4 (.t 11) (.t 47), none⟩,
 ⟨none, .store 4 (.t 12) (.t 50), none⟩])
 (.reg [
 ⟨(some 51), .mov (.t 10), none⟩,
 ⟨(some 52), .load 4 true (.t 11), none⟩,
 ⟨(some 53), .load 4 true (.t 12), none⟩,
 ⟨(some 54), .build [(.int .i64 0), (.int .i64 0), (.int .i64 0), (.int .i64 0), (.int .i64 0), (.int .i64 0), (.int .i64 0), (.int .i64 0), (.int .i64 0)] [(1, 4, (.t 52)), (5, 4, (.t 53))], none⟩,
 ⟨(some 55), .lits 9 127 [(.t 54)], none⟩,
 ⟨(some 56), .app 9 72 127 (.t 51) (.t 55), none⟩,
 ⟨(some 10), .mov (.t 56), none⟩])))
 (.reg [
 ⟨(some 57), .bin .add (.t 43) (.k (.int .i64 1)), none⟩,
 ⟨(some 43), .mov (.t 57), none⟩])))))))
 (.reg [
 ⟨(some 58), .fld 11 (.t 5), none⟩,
 ⟨(some 59), .load 1 false (.t 58), none⟩,
 ⟨(some 60), .mov (.t 10), none⟩,
 ⟨(some 61), .lits 1 50 [(.t 60)], none⟩,
 ⟨(some 62), .app 1 24 50 (.t 59) (.t 61), none⟩,
 ⟨(some 63), .fld 11 (.t 5), none⟩,
 ⟨none, .store 1 (.t 63) (.t 62), none⟩]))))
 (.reg [
 ⟨(some 64), .bin .add (.t 40) (.k (.int .i64 1)), none⟩,
 ⟨(some 40), .mov (.t 64), none⟩])))))))
 (.seq
 (.reg [
 ⟨(some 65), .load 16 true (.t 5), none⟩,
 ⟨none, .store 16 (.t 4) (.t 65), none⟩])
 .ret))))
 .skip))
 (.seq
 (.seq
 (.reg [
 ⟨(some 66), .mov (.t 0), none⟩,
 ⟨(some 67), .mov (.t 0), none⟩,
 ⟨(some 68), .fld 1 (.t 5), none⟩,
 ⟨(some 69), .load 1 false (.t 68), none⟩,
 ⟨(some 70), .call 87 [(.t 69)], none⟩,
 ⟨(some 71), .call 86 [(.t 67), (.t 70)], none⟩,
 ⟨(some 72), .call 90 [(.t 66), (.t 71)], none⟩,
 ⟨(some 73), .len false (.t 72), none⟩,
 ⟨(some 74), .mov (.k (.int .i64 0)), none⟩])
 (.block 4
 (.loop
 (.seq
 (.reg [
 ⟨(some 75), .bin .lss (.t 74) (.t 73), none⟩])
 (.seq
 (.cond (.t 75)
 .skip
 (.exit 4))
 (.seq
 (.block 5
 (.seq
 (.reg [
 ⟨(some 76), .idx 1 (.t 72) (.t 74), none⟩,
 ⟨(some 77), .load 1 false (.t 76), none⟩,
 ⟨(some 14), .mov (.t 77), none⟩])
 (.seq
 (.reg [
 ⟨(some 78), .mov (.t 0), none⟩,
 ⟨(some 79), .mov (.t 14), none⟩,
 ⟨(some 80), .call 91 [(.t 78), (.t 79)], none⟩,
 ⟨(some 15), .mov (.t 80), none⟩])
 (.seq
 (.reg [
 ⟨(some 16), .mov (.k (.vec true [])), none⟩])
 (.seq
 (.seq
 (.reg [
 ⟨(some 81), .mov (.t 15), none⟩,
 ⟨(some 82), .call 65 [(.t 81)], none⟩,
 ⟨(some 83), .mov (.k (.int .i64 0)), none⟩])
 (.block 6
 (.loop
 (.seq
 (.reg [
 ⟨(some 84), .bin .lss (.t 83) (.t 82), none⟩])
 (.seq
 (.cond (.t 84)
 .skip
 (.exit 6))
 (.seq
 (.block 7
 (.seq
 (.reg [
 ⟨(some 85), .mov (.t 15), none⟩,
 ⟨(some 86), .call 65 [(.t 85)], none⟩,
 ⟨(some 17), .mov (.t 86), none⟩])
 (.seq
 (.reg [
 ⟨(some 87), .mov (.t 6), none⟩,
 ⟨(some 88), .mov (.t 15), none⟩,
 ⟨(some 89), .callv (.t 87) [(.t 88)], none⟩,
 ⟨(some 90), .mov (.t 7), none⟩,
 ⟨(some 91), .mov (.t 15), none⟩,
 ⟨(some 92), .callv (.t 90) [(.t 91)], none⟩,
 ⟨(some 18), .new [(.int .i64 0), (.int .i64 0), (.int .i64 0), (.int .i64 0)] 89, none⟩,
 ⟨(some 19), .new [(.int .i64 0), (.int .i64 0), (.int .i64 0), (.int .i64 0)] 89, none⟩,
 ⟨none, .store 4 (.t 18) (.t 89), none⟩,
 ⟨none, .store 4 (.t 19) (.t 92), none⟩])
 (.reg [
 ⟨(some 93), .mov (.t 16), none⟩,
 ⟨(some 94), .mov (.t 17), none⟩,
 ⟨(some 95), .load 4 true (.t 18), none⟩,
 ⟨(some 96), .load 4 true (.t 19), none⟩,
 ⟨(some 97), .build [(.int .i64 0), (.int .i64 0), (.int .i64 0), (.int .i64 0), (.int .i64 0), (.int .i64 0), (.int .i64 0), (.int .i64 0), (.int .i64 0)] [(0, 1, (.t 94)), (1, 4, (.t 95)), (5, 4, (.t 96))], none⟩,
 ⟨(some 98), .lits 9 127 [(.t 97)], none⟩,
 ⟨(some 99), .app 9 72 127 (.t 93) (.t 98), none⟩,
 ⟨(some 16), .mov (.t 99), none⟩]))))
 (.reg [
 ⟨(some 100), .bin .add (.t 83) (.k (.int .i64 1)), none⟩,
 ⟨(some 83), .mov (.t 100), none⟩])))))))
 (.reg [
 ⟨(some 101), .fld 8 (.t 5), none⟩,
 ⟨(some 102), .load 1 false (.t 101), none⟩,
 ⟨(some 103), .mov (.t 16), none⟩,
 ⟨(some 104), .lits 1 50 [(.t 103)], none⟩,
 ⟨(some 105), .app 1 24 50 (.t 102) (.t 104), none⟩,
 ⟨(some 106), .fld 8 (.t 5), none⟩,
 ⟨none, .store 1 (.t 106) (.t 105), none⟩]))))))
 (.reg [
 ⟨(some 107), .bin .add (.t 74) (.k (.int .i64 1)), none⟩,
 ⟨(some 74), .mov (.t 107), none⟩])))))))
 (.seq
 (.reg [
 ⟨(some 108), .load 16 true (.t 5), none⟩,
 ⟨none, .store 16 (.t 4) (.t 108), none⟩])
 .ret))))))
theorem a67 : Go.Proofs.Try.f67.body.bind (comp Go.Proofs.Try.prog) = some A67 := by kernel_rfl
theorem r67 : compRVs Go.Proofs.Try.prog Go.Proofs.Try.f67.results.toList = some [.cell 4 16 true] := by kernel_rfl
theorem n67 : (Go.Proofs.Try.f67.name == "runtime.NumGoroutine") = false := by decide +kernel
def E67 : Nat × ACode × Nat × List RV := (67, A67, 109, [.cell 4 16 true])
theorem e67 : EntryOk Go.Proofs.Try.prog E67 := ⟨Go.Proofs.Try.f67, Go.Proofs.Try.func67, n67, a67, Go.Proofs.Try.ntmps67, r67⟩
/-! (*reedpen/gpos.reader).elsewhere -/
def A68 : ACode :=
 (.seq
 (.reg [
 ⟨(some 2), .new [(.int .i64 0), (.vec true []), (.bool false), (.int .i64 0), (.vec true []), (.vec true []), (.vec true []), (.vec true []), (.vec true []), (.vec true []), (.vec true []), (.vec true []), (.vec true []), (.vec true []), (.vec true []), (.vec true [])] 35, none⟩])
 (.seq
 (.reg [
 ⟨(some 6), .mov (.t 0), none⟩,
 ⟨(some 7), .call 65 [(.t 6)], none⟩,
 ⟨(some 3), .mov (.t 7), none⟩])
 (.seq
 (.regd [
 ⟨⟨(some 9), .mov (.t 0), none⟩, 0, [], false⟩,
 ⟨⟨(some 10), .nchk (.t 9), none⟩, 1, [], false⟩,
 ⟨⟨(some 11), .fld 0 (.t 10), none⟩, 2, [], false⟩,
 ⟨⟨(some 12), .load 1 false (.t 11), none⟩, 3, [], false⟩,
 ⟨⟨(some 13), .mov (.t 0), none⟩, 4, [], false⟩,
 ⟨⟨(some 14), .nchk (.t 13), none⟩, 5, [], false⟩,
 ⟨⟨(some 15), .fld 2 (.t 14), none⟩, 6, [], false⟩,
 ⟨⟨(some 16), .load 1 false (.t 15), none⟩, 7, [], false⟩,
 ⟨⟨(some 17), .call 79 [(.t 12), (.t 16)], none⟩, 8, [3, 2, 1, 0, 7, 6, 5, 4], false⟩,
 ⟨⟨(some 8), .mov (.t 17), none⟩, 9, [], false⟩,
 ⟨⟨(some 18), .ext 0 (.t 8), none⟩, 10, [], false⟩,
 ⟨⟨(some 19), .ext 1 (.t 8), none⟩, 11, [], false⟩,
 ⟨⟨(some 4), .mov (.t 18), none⟩, 12, [], false⟩,
 ⟨⟨(some 5), .mov (.t 19), none⟩, 13, [], false⟩])
 (.seq
 (.reg [
 ⟨(some 20), .mov (.t 5), none⟩,
 ⟨(some 21), .mov (.t 20), none⟩,
 ⟨(some 22), .mov (.t 3), (some (21, true))⟩,
 ⟨(some 23), .bin .neq (.t 22) (.k (.int .i64 9)), (some (21, true))⟩,
 ⟨(some 24), .pick (.t 21) (.t 23) (.k (.bool false)), none⟩,
 ⟨(some 25), .mov (.t 24), none⟩,
 ⟨(some 26), .mov (.t 4), (some (25, true))⟩,
 ⟨(some 27), .mov (.t 0), (some (25, true))⟩,
 ⟨(some 28), .nchk (.t 27), (some (25, true))⟩,
 ⟨(some 29), .fld 0 (.t 28), (some (25, true))⟩,
 ⟨(some 30), .load 1 false (.t 29), (some (25, true))⟩,
 ⟨(some 31), .len false (.t 30), (some (25, true))⟩,
 ⟨(some 32), .bin .leq (.t 26) (.t 31), (some (25, true))⟩,
 ⟨(some 33), .pick (.t 25) (.t 32) (.k (.bool false)), none⟩,
 ⟨(some 34), .call 40 [(.t 33)], none⟩])
 (.seq
 (.regd [
 ⟨⟨(some 35), .mov (.t 0), none⟩, 0, [], false⟩,
 ⟨⟨(some 36), .nchk (.t 35), none⟩, 1, [], false⟩,
 ⟨⟨(some 37), .fld 0 (.t 36), none⟩, 2, [], false⟩,
 ⟨⟨(some 38), .load 1 false (.t 37), none⟩, 3, [], false⟩,
 ⟨⟨(some 39), .mov (.t 0), none⟩, 4, [], false⟩,
 ⟨⟨(some 40), .nchk (.t 39), none⟩, 5, [], false⟩,
 ⟨⟨(some 41), .fld 1 (.t 40), none⟩, 6, [], false⟩,
 ⟨⟨(some 42), .load 1 false (.t 41), none⟩, 7, [], false⟩,
 ⟨⟨(some 43), .mov (.t 4), none⟩, 8, [], false⟩,
 ⟨⟨(some 44), .bin .add (.t 42) (.t 43), none⟩, 9, [], false⟩,
 ⟨⟨(some 45), .mov (.t 3), none⟩, 10, [], false⟩,
 ⟨⟨(some 46), .call 41 [(.t 38), (.t 44), (.t 45)], none⟩, 11, [3, 2, 1, 0, 9, 7, 6, 5, 4, 8, 10], false⟩,
 ⟨⟨none, .store 16 (.t 2) (.t 46), none⟩, 12, [11, 3, 2, 1, 0, 9, 7, 6, 5, 4, 8, 10], false⟩])
 .ret)))))
theorem a68 : Go.Proofs.Try.f68.body.bind (comp Go.Proofs.Try.prog) = some A68 := by kernel_rfl
theorem r68 : compRVs Go.Proofs.Try.prog Go.Proofs.Try.f68.results.toList = some [.cell 2 16 true] := by kernel_rfl
theorem n68 : (Go.Proofs.Try.f68.name == "runtime.NumGoroutine") = false := by decide +kernel
def E68 : Nat × ACode × Nat × List RV := (68, A68, 47, [.cell 2 16 true])
theorem e68 : EntryOk Go.Proofs.Try.prog E68 := ⟨Go.Proofs.Try.f68, Go.Proofs.Try.func68, n68, a68, Go.Proofs.Try.ntmps68, r68⟩
/-! (*reedpen/gpos.reader).cursive -/
def A69 : ACode :=
 (.seq
 (.reg [
 ⟨(some 2), .new [(.int .i64 0), (.vec true []), (.bool false), (.int .i64 0), (.vec true []), (.vec true []), (.vec true []), (.vec true []), (.vec true []), (.vec true []), (.vec true []), (.vec true []), (.vec true []), (.vec true []), (.vec true []), (.vec true [])] 35, none⟩])
 (.seq
 (.reg [
 ⟨(some 5), .mov (.t 0), none⟩,
 ⟨(some 6), .call 84 [(.t 5)], none⟩,
 ⟨(some 7), .build [(.int .i64 0), (.vec true []), (.bool false), (.int .i64 0), (.vec true []), (.vec true []), (.vec true []), (.vec true []), (.vec true []), (.vec true []), (.vec true []), (.vec true []), (.vec true []), (.vec true []), (.vec true []), (.vec true [])] [(0, 1, (.k (.int .i64 13))), (1, 1, (.t 6))], none⟩,
 ⟨(some 3), .new [(.int .i64 0), (.vec true []), (.bool false), (.int .i64 0), (.vec true []), (.vec true []), (.vec true []), (.vec true []), (.vec true []), (.vec true []), (.vec true []), (.vec true []), (.vec true []), (.vec true []), (.vec true []), (.vec true [])] 35, none⟩,
 ⟨none, .store 16 (.t 3) (.t 7), none⟩])
 (.seq
 (.seq
 (.reg [
 ⟨(some 8), .mov (.t 0), none⟩,
 ⟨(some 9), .fld 1 (.t 3), none⟩,
 ⟨(some 10), .load 1 false (.t 9), none⟩,
 ⟨(some 11), .call 87 [(.t 10)], none⟩,
 ⟨(some 12), .call 86 [(.t 8), (.t 11)], none⟩,
 ⟨(some 13), .mov (.k (.int .i64 0)), none⟩])
 (.block 0
 (.loop
 (.seq
 (.reg [
 ⟨(some 14), .bin .lss (.t 13) (.t 12), none⟩])
 (.seq
 (.cond (.t 14)
 .skip
 (.exit 0))
 (.seq
 (.block 1
 (.seq
 (.reg [
 ⟨(some 15), .mov (.t 0), none⟩,
 ⟨(some 16), .call 92 [(.t 15), (.k (.int .i64 2))], none⟩,
 ⟨(some 4), .mov (.t 16), none⟩])
 (.regd [
 ⟨⟨(some 17), .fld 12 (.t 3), none⟩, 0, [], false⟩,
 ⟨⟨(some 18), .load 1 false (.t 17), none⟩, 1, [], false⟩,
 ⟨⟨(some 19), .mov (.t 4), none⟩, 2, [], false⟩,
 ⟨⟨(some 20), .idx 3 (.t 19) (.k (.int .i64 0)), none⟩, 3, [], false⟩,
 ⟨⟨(some 21), .load 3 true (.t 20), none⟩, 4, [], false⟩,
 ⟨⟨(some 22), .mov (.t 4), none⟩, 5, [], false⟩,
 ⟨⟨(some 23), .idx 3 (.t 22) (.k (.int .i64 1)), none⟩, 6, [], false⟩,
 ⟨⟨(some 24), .load 3 true (.t 23), none⟩, 7, [], false⟩,
 ⟨⟨(some 25), .build [(.bool false), (.int .i64 0), (.int .i64 0), (.bool false), (.int .i64 0), (.int .i64 0)] [(0, 3, (.t 21)), (3, 3, (.t 24))], none⟩, 8, [], false⟩,
 ⟨⟨(some 26), .lits 6 95 [(.t 25)], none⟩, 9, [], false⟩,
 ⟨⟨(some 27), .app 6 48 95 (.t 18) (.t 26), none⟩, 10, [1, 0, 9, 8, 4, 3, 2, 7, 6, 5], false⟩,
 ⟨⟨(some 28), .fld 12 (.t 3), none⟩, 11, [], false⟩,
 ⟨⟨none, .store 1 (.t 28) (.t 27), none⟩, 12, [11, 0, 1, 2, 3, 4, 5, 6, 7, 8, 9, 10], false⟩])))
 (.reg [
 ⟨(some 29), .bin .add (.t 13) (.k (.int .i64 1)), none⟩,
 ⟨(some 13), .mov (.t 29), none⟩])))))))
 (.seq
 (.reg [
 ⟨(some 30), .load 16 true (.t 3), none⟩,
 ⟨none, .store 16 (.t 2) (.t 30), none⟩])
 .ret))))
theorem a69 : Go.Proofs.Try.f69.body.bind (comp Go.Proofs.Try.prog) = some A69 := by kernel_rfl
theorem r69 : compRVs Go.Proofs.Try.prog Go.Proofs.Try.f69.results.toList = some [.cell 2 16 true] := by kernel_rfl
theorem n69 : (Go.Proofs.Try.f69.name == "runtime.NumGoroutine") = false := by decide +kernel
def E69 : Nat × ACode × Nat × List RV := (69, A69, 31, [.cell 2 16 true])
theorem e69 : EntryOk Go.Proofs.Try.prog E69 := ⟨Go.Proofs.Try.f69, Go.Proofs.Try.func69, n69, a69, Go.Proofs.Try.ntmps69, r69⟩
/-! (*reedpen/gpos.reader).marks -/
def A70 : ACode :=
 (.seq
 (.reg [
 ⟨(some 4), .new [(.int .i64 0), (.vec true []), (.bool false), (.int .i64 0), (.vec true []), (.vec true []), (.vec true []), (.vec true []), (.vec true []), (.vec true []), (.vec true []), (.vec true []), (.vec true []), (.vec true []), (.vec true []), (.vec true [])] 35, none⟩])
 (.seq
 (.reg [
 ⟨(some 14), .mov (.t 1), none⟩,
 ⟨(some 15), .bin .add (.t 14) (.k (.int .i64 10)), none⟩,
 ⟨(some 16), .mov (.t 0), none⟩,
 ⟨(some 17), .call 84 [(.t 16)], none⟩,
 ⟨(some 18), .mov (.t 0), none⟩,
 ⟨(some 19), .call 84 [(.t 18)], none⟩,
 ⟨(some 20), .build [(.int .i64 0), (.vec true []), (.bool false), (.int .i64 0), (.vec true []), (.vec true []), (.vec true []), (.vec true []), (.vec true []), (.vec true []), (.vec true []), (.vec true []), (.vec true []), (.vec true []), (.vec true []), (.vec true [])] [(0, 1, (.t 15)), (1, 1, (.t 17)), (14, 1, (.t 19))], none⟩,
 ⟨(some 5), .new [(.int .i64 0), (.vec true []), (.bool false), (.int .i64 0), (.vec true []), (.vec true []), (.vec true []), (.vec true []), (.vec true []), (.vec true []), (.vec true []), (.vec true []), (.vec true []), (.vec true []), (.vec true []), (.vec true [])] 35, none⟩,
 ⟨none, .store 16 (.t 5) (.t 20), none⟩])
 (.seq
 (.reg [
 ⟨(some 21), .mov (.t 0), none⟩,
 ⟨(some 22), .call 89 [(.t 21), (.k (.int .i64 1)), (.k (.int .i64 64))], none⟩,
 ⟨(some 6), .mov (.t 22), none⟩])
 (.seq
 (.reg [
 ⟨(some 23), .mov (.t 0), none⟩,
 ⟨(some 24), .mov (.t 0), none⟩,
 ⟨(some 25), .call 65 [(.t 24)], none⟩,
 ⟨(some 26), .call 91 [(.t 23), (.t 25)], none⟩,
 ⟨(some 27), .mov (.t 0), none⟩,
 ⟨(some 28), .mov (.t 0), none⟩,
 ⟨(some 29), .call 65 [(.t 28)], none⟩,
 ⟨(some 30), .call 91 [(.t 27), (.t 29)], none⟩,
 ⟨(some 7), .mov (.t 26), none⟩,
 ⟨(some 8), .mov (.t 30), none⟩])
 (.seq
 (.seq
 (.reg [
 ⟨(some 31), .mov (.t 7), none⟩,
 ⟨(some 32), .fld 1 (.t 5), none⟩,
 ⟨(some 33), .load 1 false (.t 32), none⟩,
 ⟨(some 34), .call 87 [(.t 33)], none⟩,
 ⟨(some 35), .call 86 [(.t 31), (.t 34)], none⟩,
 ⟨(some 36), .mov (.k (.int .i64 0)), none⟩])
 (.block 0
 (.loop
 (.seq
 (.reg [
 ⟨(some 37), .bin .lss (.t 36) (.t 35), none⟩])
 (.seq
 (.cond (.t 37)
 .skip
 (.exit 0))
 (.seq
 (.block 1
 (.seq
 (.reg [
 ⟨(some 38), .mov (.t 7), none⟩,
 ⟨(some 39), .mov (.t 6), none⟩,
 ⟨(some 40), .bin .sub (.t 39) (.k (.int .i64 1)), none⟩,
 ⟨(some 41), .call 89 [(.t 38), (.k (.int .i64 0)), (.t 40)], none⟩,
 ⟨(some 9), .mov (.t 41), none⟩])
 (.seq
 (.reg [
 ⟨(some 42), .mov (.t 7), none⟩,
 ⟨(some 43), .mov (.t 7), none⟩,
 ⟨(some 44), .call 65 [(.t 43)], none⟩,
 ⟨(some 45), .call 93 [(.t 42), (.t 44)], none⟩,
 ⟨(some 10), .new [(.bool false), (.int .i64 0), (.int .i64 0)] 53, none⟩,
 ⟨none, .store 3 (.t 10) (.t 45), none⟩])
 (.seq
 (.reg [
 ⟨(some 46), .fld 0 (.t 10), none⟩,
 ⟨(some 47), .load 1 false (.t 46), none⟩,
 ⟨(some 48), .call 40 [(.t 47)], none⟩])
 (.reg [
 ⟨(some 49), .fld 13 (.t 5), none⟩,
 ⟨(some 50), .load 1 false (.t 49), none⟩,
 ⟨(some 51), .mov (.t 9), none⟩,
 ⟨(some 52), .load 3 true (.t 10), none⟩,
 ⟨(some 53), .build [(.int .i64 0), (.bool false), (.int .i64 0), (.int .i64 0)] [(0, 1, (.t 51)), (1, 3, (.t 52))], none⟩,
 ⟨(some 54), .lits 4 55 [(.t 53)], none⟩,
 ⟨(some 55), .app 4 32 55 (.t 50) (.t 54), none⟩,
 ⟨(some 56), .fld 13 (.t 5), none⟩,
 ⟨none, .store 1 (.t 56) (.t 55), none⟩])))))
 (.reg [
 ⟨(some 57), .bin .add (.t 36) (.k (.int .i64 1)), none⟩,
 ⟨(some 36), .mov (.t 57), none⟩])))))))
 (.seq
 (.seq
 (.reg [
 ⟨(some 58), .mov (.t 8), none⟩,
 ⟨(some 59), .fld 14 (.t 5), none⟩,
 ⟨(some 60), .load 1 false (.t 59), none⟩,
 ⟨(some 61), .call 87 [(.t 60)], none⟩,
 ⟨(some 62), .call 86 [(.t 58), (.t 61)], none⟩,
 ⟨(some 63), .mov (.k (.int .i64 0)), none⟩])
 (.block 2
 (.loop
 (.seq
 (.reg [
 ⟨(some 64), .bin .lss (.t 63) (.t 62), none⟩])
 (.seq
 (.cond (.t 64)
 .skip
 (.exit 2))
 (.seq
 (.block 3
 (.seq
 (.reg [
 ⟨(some 65), .mov (.t 8), none⟩,
 ⟨(some 11), .mov (.t 65), none⟩,
 ⟨(some 12), .mov (.k (.int .i64 1)), none⟩])
 (.seq
 (.seq
 (.reg [
 ⟨(some 66), .mov (.t 1), none⟩,
 ⟨(some 67), .bin .add (.t 66) (.k (.int .i64 10)), none⟩,
 ⟨(some 68), .bin .eql (.t 67) (.k (.int .i64 15)), none⟩])
 (.cond (.t 68)
 (.seq
 (.reg [
 ⟨(some 69), .mov (.t 8), none⟩,
 ⟨(some 70), .mov (.t 8), none⟩,
 ⟨(some 71), .call 65 [(.t 70)], none⟩,
 ⟨(some 72), .call 91 [(.t 69), (.t 71)], none⟩,
 ⟨(some 11), .mov (.t 72), none⟩])
 (.reg [
 ⟨(some 73), .mov (.t 11), none⟩,
 ⟨(some 74), .call 89 [(.t 73), (.k (.int .i64 1)), (.k (.int .i64 16))], none⟩,
 ⟨(some 12), .mov (.t 74), none⟩]))
 .skip))
 (.seq
 (.reg [
 ⟨(some 13), .mov (.k (.vec true [])), none⟩])
 (.seq
 (.seq
 (.reg [
 ⟨(some 75), .mov (.t 12), none⟩,
 ⟨(some 76), .mov (.k (.int .i64 0)), none⟩])
 (.block 4
 (.loop
 (.seq
 (.reg [
 ⟨(some 77), .bin .lss (.t 76) (.t 75), none⟩])
 (.seq
 (.cond (.t 77)
 .skip
 (.exit 4))
 (.seq
 (.block 5
 (.reg [
 ⟨(some 78), .mov (.t 13), none⟩,
 ⟨(some 79), .mov (.t 11), none⟩,
 ⟨(some 80), .mov (.t 6), none⟩,
 ⟨(some 81), .call 92 [(.t 79), (.t 80)], none⟩,
 ⟨(some 82), .lits 1 56 [(.t 81)], none⟩,
 ⟨(some 83), .app 1 24 56 (.t 78) (.t 82), none⟩,
 ⟨(some 13), .mov (.t 83), none⟩]))
 (.reg [
 ⟨(some 84), .bin .add (.t 76) (.k (.int .i64 1)), none⟩,
 ⟨(some 76), .mov (.t 84), none⟩])))))))
 (.reg [
 ⟨(some 85), .fld 15 (.t 5), none⟩,
 ⟨(some 86), .load 1 false (.t 85), none⟩,
 ⟨(some 87), .mov (.t 13), none⟩,
 ⟨(some 88), .lits 1 51 [(.t 87)], none⟩,
 ⟨(some 89), .app 1 24 51 (.t 86) (.t 88), none⟩,
 ⟨(some 90), .fld 15 (.t 5), none⟩,
 ⟨none, .store 1 (.t 90) (.t 89), none⟩]))))))
 (.reg [
 ⟨(some 91), .bin .add (.t 63) (.k (.int .i64 1)), none⟩,
 ⟨(some 63), .mov (.t 91), none⟩])))))))
 (.seq
 (.reg [
 ⟨(some 92), .load 16 true (.t 5), none⟩,
 ⟨none, .store 16 (.t 4) (.t 92), none⟩])
 .ret)))))))
theorem a70 : Go.Proofs.Try.f70.body.bind (comp Go.Proofs.Try.prog) = some A70 := by kernel_rfl
theorem r70 : compRVs Go.Proofs.Try.prog Go.Proofs.Try.f70.results.toList = some [.cell 4 16 true] := by kernel_rfl
theorem n70 : (Go.Proofs.Try.f70.name == "runtime.NumGoroutine") = false := by decide +kernel
def E70 : Nat × ACode × Nat × List RV := (70, A70, 93, [.cell 4 16 true])
theorem e70 : EntryOk Go.Proofs.Try.prog E70 := ⟨Go.Proofs.Try.f70, Go.Proofs.Try.func70, n70, a70, Go.Proofs.Try.ntmps70, r70⟩
/-! reedpen/context.table -/
def A71 : ACode :=
 (.seq
 (.reg [
 ⟨(some 6), .new [(.vec true [])] 27, none⟩,
 ⟨(some 7), .new [(.bool false)] 4, none⟩])
 (.seq
 (.dfr 9 94 [(.t 6), (.t 7)])
 (.seq
 (.reg [
 ⟨(some 10), .mov (.t 0), none⟩,
 ⟨(some 11), .mov (.t 1), none⟩,
 ⟨(some 12), .build [(.vec true []), (.int .i64 0)] [(0, 1, (.t 10)), (1, 1, (.t 11))], none⟩,
 ⟨(some 13), .box (.t 12) 152, none⟩,
 ⟨(some 8), .mov (.t 13), none⟩])
 (.seq
 (.seq
 (.reg [
 ⟨(some 14), .mov (.t 8), none⟩,
 ⟨(some 15), .call 95 [(.t 14)], none⟩])
 (.block 0
 (.seq
 (.reg [
 ⟨(some 17), .bin .eql (.t 15) (.k (.int .i64 1)), none⟩,
 ⟨(some 16), .mov (.t 17), none⟩])
 (.cond (.t 16)
 (.seq
 (.reg [
 ⟨(some 18), .mov (.t 8), none⟩,
 ⟨(some 19), .mov (.t 1), none⟩,
 ⟨(some 20), .mov (.t 2), none⟩,
 ⟨(some 21), .call 96 [(.t 18), (.t 19), (.t 20)], none⟩,
 ⟨none, .store 1 (.t 6) (.t 21), none⟩,
 ⟨none, .store 1 (.t 7) (.k (.bool true)), none⟩])
 .ret)
 (.seq
 (.reg [
 ⟨(some 23), .bin .eql (.t 15) (.k (.int .i64 2)), none⟩,
 ⟨(some 22), .mov (.t 23), none⟩])
 (.cond (.t 22)
 (.seq
 (.reg [
 ⟨(some 24), .mov (.t 8), none⟩,
 ⟨(some 25), .mov (.t 1), none⟩,
 ⟨(some 26), .mov (.t 2), none⟩,
 ⟨(some 27), .call 97 [(.t 24), (.t 25), (.t 26)], none⟩,
 ⟨none, .store 1 (.t 6) (.t 27), none⟩,
 ⟨none, .store 1 (.t 7) (.k (.bool true)), none⟩])
 .ret)
 (.seq
 (.reg [
 ⟨(some 29), .bin .eql (.t 15) (.k (.int .i64 3)), none⟩,
 ⟨(some 28), .mov (.t 29), none⟩])
 (.cond (.t 28)
 (.seq
 (.reg [
 ⟨(some 30), .mov (.t 8), none⟩,
 ⟨(some 31), .mov (.t 1), none⟩,
 ⟨(some 32), .mov (.t 2), none⟩,
 ⟨(some 33), .call 98 [(.t 30), (.t 31), (.t 32)], none⟩,
 ⟨none, .store 1 (.t 6) (.t 33), none⟩,
 ⟨none, .store 1 (.t 7) (.k (.bool true)), none⟩])
 .ret)
 .skip))))))))
 (.seq
 (.reg [
 ⟨none, .store 1 (.t 6) (.k (.vec true [])), none⟩,
 ⟨none, .store 1 (.t 7) (.k (.bool false)), none⟩])
 .ret)))))
theorem a71 : Go.Proofs.Try.f71.body.bind (comp Go.Proofs.Try.prog) = some A71 := by kernel_rfl
theorem r71 : compRVs Go.Proofs.Try.prog Go.Proofs.Try.f71.results.toList = some [.cell 6 1 false, .cell 7 1 false] := by kernel_rfl
theorem n71 : (Go.Proofs.Try.f71.name == "runtime.NumGoroutine") = false := by decide +kernel
def E71 : Nat × ACode × Nat × List RV := (71, A71, 34, [.cell 6 1 false, .cell 7 1 false])
theorem e71 : EntryOk Go.Proofs.Try.prog E71 := ⟨Go.Proofs.Try.f71, Go.Proofs.Try.func71, n71, a71, Go.Proofs.Try.ntmps71, r71⟩
/-! reedpen/octet.U16 -/
def A72 : ACode :=
 (.seq
 (.reg [
 ⟨(some 4), .mov (.k (.int .i64 0)), none⟩,
 ⟨(some 5), .mov (.k (.bool false)), none⟩])
 (.seq
 (.reg [
 ⟨(some 6), .mov (.t 0), none⟩,
 ⟨(some 7), .mov (.t 1), none⟩,
 ⟨(some 8), .call 99 [(.t 6), (.t 7), (.k (.int .i64 2))], none⟩,
 ⟨(some 9), .ext 0 (.t 8), none⟩,
 ⟨(some 10), .ext 1 (.t 8), none⟩,
 ⟨(some 4), .mov (.t 9), none⟩,
 ⟨(some 5), .mov (.t 10), none⟩])
 .ret))
theorem a72 : Go.Proofs.Try.f72.body.bind (comp Go.Proofs.Try.prog) = some A72 := by kernel_rfl
theorem r72 : compRVs Go.Proofs.Try.prog Go.Proofs.Try.f72.results.toList = some [.tmp 4, .tmp 5] := by kernel_rfl
theorem n72 : (Go.Proofs.Try.f72.name == "runtime.NumGoroutine") = false := by decide +kernel
def E72 : Nat × ACode × Nat × List RV := (72, A72, 11, [.tmp 4, .tmp 5])
theorem e72 : EntryOk Go.Proofs.Try.prog E72 := ⟨Go.Proofs.Try.f72, Go.Proofs.Try.func72, n72, a72, Go.Proofs.Try.ntmps72, r72⟩
/-! reedpen/octet.U32 -/
def A79 : ACode :=
 (.seq
 (.reg [
 ⟨(some 4), .mov (.k (.int .i64 0)), none⟩,
 ⟨(some 5), .mov (.k (.bool false)), none⟩])
 (.seq
 (.reg [
 ⟨(some 6), .mov (.t 0), none⟩,
 ⟨(some 7), .mov (.t 1), none⟩,
 ⟨(some 8), .call 99 [(.t 6), (.t 7), (.k (.int .i64 4))], none⟩,
 ⟨(some 9), .ext 0 (.t 8), none⟩,
 ⟨(some 10), .ext 1 (.t 8), none⟩,
 ⟨(some 4), .mov (.t 9), none⟩,
 ⟨(some 5), .mov (.t 10), none⟩])
 .ret))
theorem a79 : Go.Proofs.Try.f79.body.bind (comp Go.Proofs.Try.prog) = some A79 := by kernel_rfl
theorem r79 : compRVs Go.Proofs.Try.prog Go.Proofs.Try.f79.results.toList = some [.tmp 4, .tmp 5] := by kernel_rfl
theorem n79 : (Go.Proofs.Try.f79.name == "runtime.NumGoroutine") = false := by decide +kernel
def E79 : Nat × ACode × Nat × List RV := (79, A79, 11, [.tmp 4, .tmp 5])
theorem e79 : EntryOk Go.Proofs.Try.prog E79 := ⟨Go.Proofs.Try.f79, Go.Proofs.Try.func79, n79, a79, Go.Proofs.Try.ntmps79, r79⟩
/-! (*reedpen/gpos.reader).spans -/
def A84 : ACode :=
 (.seq
 (.reg [
 ⟨(some 2), .mov (.k (.vec true [])), none⟩])
 (.seq
 (.regd [
 ⟨⟨(some 6), .mov (.t 0), none⟩, 0, [], false⟩,
 ⟨⟨(some 7), .nchk (.t 6), none⟩, 1, [], false⟩,
 ⟨⟨(some 8), .fld 0 (.t 7), none⟩, 2, [], false⟩,
 ⟨⟨(some 9), .load 1 false (.t 8), none⟩, 3, [], true⟩,
 ⟨⟨(some 10), .mov (.t 0), none⟩, 4, [], false⟩,
 ⟨⟨(some 11), .nchk (.t 10), none⟩, 5, [], false⟩,
 ⟨⟨(some 12), .fld 1 (.t 11), none⟩, 6, [], false⟩,
 ⟨⟨(some 13), .load 1 false (.t 12), none⟩, 7, [], true⟩,
 ⟨⟨(some 14), .mov (.t 0), none⟩, 8, [], false⟩,
 ⟨⟨(some 15), .call 65 [(.t 14)], none⟩, 9, [8], false⟩,
 ⟨⟨(some 16), .bin .add (.t 13) (.t 15), none⟩, 10, [], false⟩,
 ⟨⟨(some 17), .call 100 [(.t 9), (.t 16)], none⟩, 11, [3, 2, 1, 0, 10, 7, 6, 5, 4, 9, 8], false⟩,
 ⟨⟨(some 5), .mov (.t 17), none⟩, 12, [], false⟩,
 ⟨⟨(some 18), .ext 0 (.t 5), none⟩, 13, [], false⟩,
 ⟨⟨(some 19), .ext 1 (.t 5), none⟩, 14, [], false⟩,
 ⟨⟨(some 3), .mov (.t 18), none⟩, 15, [], false⟩,
 ⟨⟨(some 4), .mov (.t 19), none⟩, 16, [], false⟩])
 (.seq
 (.reg [
 ⟨(some 20), .mov (.t 4), none⟩,
 ⟨(some 21), .call 40 [(.t 20)], none⟩])
 (.seq
 (.reg [
 ⟨(some 22), .mov (.t 3), none⟩,
 ⟨(some 2), .mov (.t 22), none⟩])
 .ret))))
theorem a84 : Go.Proofs.Try.f84.body.bind (comp Go.Proofs.Try.prog) = some A84 := by kernel_rfl
theorem r84 : compRVs Go.Proofs.Try.prog Go.Proofs.Try.f84.results.toList = some [.tmp 2] := by kernel_rfl
theorem n84 : (Go.Proofs.Try.f84.name == "runtime.NumGoroutine") = false := by decide +kernel
def E84 : Nat × ACode × Nat × List RV := (84, A84, 23, [.tmp 2])
theorem e84 : EntryOk Go.Proofs.Try.prog E84 := ⟨Go.Proofs.Try.f84, Go.Proofs.Try.func84, n84, a84, Go.Proofs.Try.ntmps84, r84⟩
/-! (*reedpen/gpos.reader).value -/
def A85 : ACode :=
 (.seq
 (.reg [
 ⟨(some 2), .mov (.k .nilfn), none⟩])
 (.seq
 (.reg [
 ⟨(some 4), .mov (.t 0), none⟩,
 ⟨(some 5), .call 89 [(.t 4), (.k (.int .i64 0)), (.k (.int .i64 255))], none⟩,
 ⟨(some 3), .new [(.int .i64 0)] 3, none⟩,
 ⟨none, .store 1 (.t 3) (.t 5), none⟩])
 (.seq
 (.reg [
 ⟨(some 6), .mkfn (.func 103) [] [(.t 3)], none⟩,
 ⟨(some 2), .mov (.t 6), none⟩])
 .ret)))
theorem a85 : Go.Proofs.Try.f85.body.bind (comp Go.Proofs.Try.prog) = some A85 := by kernel_rfl
theorem r85 : compRVs Go.Proofs.Try.prog Go.Proofs.Try.f85.results.toList = some [.tmp 2] := by kernel_rfl
theorem n85 : (Go.Proofs.Try.f85.name == "runtime.NumGoroutine") = false := by decide +kernel
def E85 : Nat × ACode × Nat × List RV := (85, A85, 7, [.tmp 2])
theorem e85 : EntryOk Go.Proofs.Try.prog E85 := ⟨Go.Proofs.Try.f85, Go.Proofs.Try.func85, n85, a85, Go.Proofs.Try.ntmps85, r85⟩
/-! (*reedpen/gpos.reader).exactly -/
def A86 : ACode :=
 (.seq
 (.reg [
 ⟨(some 4), .mov (.k (.int .i64 0)), none⟩])
 (.seq
 (.reg [
 ⟨(some 5), .mov (.t 0), none⟩,
 ⟨(some 6), .mov (.t 1), none⟩,
 ⟨(some 7), .mov (.t 1), none⟩,
 ⟨(some 8), .call 89 [(.t 5), (.t 6), (.t 7)], none⟩,
 ⟨(some 4), .mov (.t 8), none⟩])
 .ret))
theorem a86 : Go.Proofs.Try.f86.body.bind (comp Go.Proofs.Try.prog) = some A86 := by kernel_rfl
theorem r86 : compRVs Go.Proofs.Try.prog Go.Proofs.Try.f86.results.toList = some [.tmp 4] := by kernel_rfl
theorem n86 : (Go.Proofs.Try.f86.name == "runtime.NumGoroutine") = false := by decide +kernel
def E86 : Nat × ACode × Nat × List RV := (86, A86, 9, [.tmp 4])
theorem e86 : EntryOk Go.Proofs.Try.prog E86 := ⟨Go.Proofs.Try.f86, Go.Proofs.Try.func86, n86, a86, Go.Proofs.Try.ntmps86, r86⟩
/-! reedpen/cover.Count -/
def A87 : ACode :=
 (.seq
 (.reg [
 ⟨(some 2), .mov (.k (.int .i64 0)), none⟩])
 (.seq
 (.reg [
 ⟨(some 3), .mov (.k (.int .i64 0)), none⟩])
 (.seq
 (.seq
 (.reg [
 ⟨(some 6), .mov (.t 0), none⟩,
 ⟨(some 7), .len false (.t 6), none⟩,
 ⟨(some 8), .mov (.k (.int .i64 0)), none⟩])
 (.block 0
 (.loop
 (.seq
 (.reg [
 ⟨(some 9), .bin .lss (.t 8) (.t 7), none⟩])
 (.seq
 (.cond (.t 9)
 .skip
 (.exit 0))
 (.seq
 (.block 1
 (.seq
 (.reg [
 ⟨(some 10), .idx 2 (.t 6) (.t 8), none⟩,
 ⟨(some 11), .load 2 true (.t 10), none⟩,
 ⟨(some 5), .new [(.int .i64 0), (.int .i64 0)] 87, none⟩,
 ⟨none, .store 2 (.t 5) (.t 11), none⟩])
 (.reg [
 ⟨(some 12), .mov (.t 3), none⟩,
 ⟨(some 13), .fld 1 (.t 5), none⟩,
 ⟨(some 14), .load 1 false (.t 13), none⟩,
 ⟨(some 15), .fld 0 (.t 5), none⟩,
 ⟨(some 16), .load 1 false (.t 15), none⟩,
 ⟨(some 17), .bin .sub (.t 14) (.t 16), none⟩,
 ⟨(some 18), .bin .add (.t 17) (.k (.int .i64 1)), none⟩,
 ⟨(some 19), .bin .add (.t 12) (.t 18), none⟩,
 ⟨(some 3), .mov (.t 19), none⟩])))
 (.reg [
 ⟨(some 20), .bin .add (.t 8) (.k (.int .i64 1)), none⟩,
 ⟨(some 8), .mov (.t 20), none⟩])))))))
 (.seq
 (.reg [
 ⟨(some 21), .mov (.t 3), none⟩,
 ⟨(some 2), .mov (.t 21), none⟩])
 .ret))))
theorem a87 : Go.Proofs.Try.f87.body.bind (comp Go.Proofs.Try.prog) = some A87 := by kernel_rfl
theorem r87 : compRVs Go.Proofs.Try.prog Go.Proofs.Try.f87.results.toList = some [.tmp 2] := by kernel_rfl
theorem n87 : (Go.Proofs.Try.f87.name == "runtime.NumGoroutine") = false := by decide +kernel
def E87 : Nat × ACode × Nat × List RV := (87, A87, 22, [.tmp 2])
theorem e87 : EntryOk Go.Proofs.Try.prog E87 := ⟨Go.Proofs.Try.f87, Go.Proofs.Try.func87, n87, a87, Go.Proofs.Try.ntmps87, r87⟩
/-! (*reedpen/gpos.reader).classes -/
def A88 : ACode :=
 (.seq
 (.reg [
 ⟨(some 2), .mov (.k (.vec true [])), none⟩])
 (.seq
 (.regd [
 ⟨⟨(some 6), .mov (.t 0), none⟩, 0, [], false⟩,
 ⟨⟨(some 7), .nchk (.t 6), none⟩, 1, [], false⟩,
 ⟨⟨(some 8), .fld 0 (.t 7), none⟩, 2, [], false⟩,
 ⟨⟨(some 9), .load 1 false (.t 8), none⟩, 3, [], true⟩,
 ⟨⟨(some 10), .mov (.t 0), none⟩, 4, [], false⟩,
 ⟨⟨(some 11), .nchk (.t 10), none⟩, 5, [], false⟩,
 ⟨⟨(some 12), .fld 1 (.t 11), none⟩, 6, [], false⟩,
 ⟨⟨(some 13), .load 1 false (.t 12), none⟩, 7, [], true⟩,
 ⟨⟨(some 14), .mov (.t 0), none⟩, 8, [], false⟩,
 ⟨⟨(some 15), .call 65 [(.t 14)], none⟩, 9, [8], false⟩,
 ⟨⟨(some 16), .bin .add (.t 13) (.t 15), none⟩, 10, [], false⟩,
 ⟨⟨(some 17), .call 105 [(.t 9), (.t 16)], none⟩, 11, [3, 2, 1, 0, 10, 7, 6, 5, 4, 9, 8], false⟩,
 ⟨⟨(some 5), .mov (.t 17), none⟩, 12, [], false⟩,
 ⟨⟨(some 18), .ext 0 (.t 5), none⟩, 13, [], false⟩,
 ⟨⟨(some 19), .ext 1 (.t 5), none⟩, 14, [], false⟩,
 ⟨⟨(some 3), .mov (.t 18), none⟩, 15, [], false⟩,
 ⟨⟨(some 4), .mov (.t 19), none⟩, 16, [], false⟩])
 (.seq
 (.reg [
 ⟨(some 20), .mov (.t 4), none⟩,
 ⟨(some 21), .call 40 [(.t 20)], none⟩])
 (.seq
 (.reg [
 ⟨(some 22), .mov (.t 3), none⟩,
 ⟨(some 2), .mov (.t 22), none⟩])
 .ret))))
theorem a88 : Go.Proofs.Try.f88.body.bind (comp Go.Proofs.Try.prog) = some A88 := by kernel_rfl
theorem r88 : compRVs Go.Proofs.Try.prog Go.Proofs.Try.f88.results.toList = some [.tmp 2] := by kernel_rfl
theorem n88 : (Go.Proofs.Try.f88.name == "runtime.NumGoroutine") = false := by decide +kernel
def E88 : Nat × ACode × Nat × List RV := (88, A88, 23, [.tmp 2])
theorem e88 : EntryOk Go.Proofs.Try.prog E88 := ⟨Go.Proofs.Try.f88, Go.Proofs.Try.func88, n88, a88, Go.Proofs.Try.ntmps88, r88⟩
/-! (*reedpen/gpos.reader).count -/
def A89 : ACode :=
 (.seq
 (.reg [
 ⟨(some 6), .mov (.k (.int .i64 0)), none⟩])
 (.seq
 (.reg [
 ⟨(some 8), .mov (.t 0), none⟩,
 ⟨(some 9), .call 65 [(.t 8)], none⟩,
 ⟨(some 7), .mov (.t 9), none⟩])
 (.seq
 (.reg [
 ⟨(some 10), .mov (.t 7), none⟩,
 ⟨(some 11), .mov (.t 1), none⟩,
 ⟨(some 12), .bin .geq (.t 10) (.t 11), none⟩,
 ⟨(some 13), .mov (.t 12), none⟩,
 ⟨(some 14), .mov (.t 7), (some (13, true))⟩,
 ⟨(some 15), .mov (.t 2), (some (13, true))⟩,
 ⟨(some 16), .bin .leq (.t 14) (.t 15), (some (13, true))⟩,
 ⟨(some 17), .pick (.t 13) (.t 16) (.k (.bool false)), none⟩,
 ⟨(some 18), .call 40 [(.t 17)], none⟩])
 (.seq
 (.reg [
 ⟨(some 19), .mov (.t 7), none⟩,
 ⟨(some 6), .mov (.t 19), none⟩])
 .ret))))
theorem a89 : Go.Proofs.Try.f89.body.bind (comp Go.Proofs.Try.prog) = some A89 := by kernel_rfl
theorem r89 : compRVs Go.Proofs.Try.prog Go.Proofs.Try.f89.results.toList = some [.tmp 6] := by kernel_rfl
theorem n89 : (Go.Proofs.Try.f89.name == "runtime.NumGoroutine") = false := by decide +kernel
def E89 : Nat × ACode × Nat × List RV := (89, A89, 20, [.tmp 6])
theorem e89 : EntryOk Go.Proofs.Try.prog E89 := ⟨Go.Proofs.Try.f89, Go.Proofs.Try.func89, n89, a89, Go.Proofs.Try.ntmps89, r89⟩
/-! (*reedpen/gpos.reader).row -/
def A90 : ACode :=
 (.seq
 (.reg [
 ⟨(some 4), .mov (.k (.vec true [])), none⟩])
 (.seq
 (.regd [
 ⟨⟨(some 8), .mov (.t 0), none⟩, 0, [], false⟩,
 ⟨⟨(some 9), .nchk (.t 8), none⟩, 1, [], false⟩,
 ⟨⟨(some 10), .fld 0 (.t 9), none⟩, 2, [], false⟩,
 ⟨⟨(some 11), .load 1 false (.t 10), none⟩, 3, [], false⟩,
 ⟨⟨(some 12), .mov (.t 0), none⟩, 4, [], false⟩,
 ⟨⟨(some 13), .nchk (.t 12), none⟩, 5, [], false⟩,
 ⟨⟨(some 14), .fld 2 (.t 13), none⟩, 6, [], false⟩,
 ⟨⟨(some 15), .load 1 false (.t 14), none⟩, 7, [], false⟩,
 ⟨⟨(some 16), .mov (.t 1), none⟩, 8, [], false⟩,
 ⟨⟨(some 17), .call 101 [(.t 11), (.t 15), (.t 16), (.k (.int .i64 2))], none⟩, 9, [3, 2, 1, 0, 7, 6, 5, 4, 8], false⟩,
 ⟨⟨(some 7), .mov (.t 17), none⟩, 10, [], false⟩,
 ⟨⟨(some 18), .ext 0 (.t 7), none⟩, 11, [], false⟩,
 ⟨⟨(some 19), .ext 1 (.t 7), none⟩, 12, [], false⟩,
 ⟨⟨(some 5), .mov (.t 18), none⟩, 13, [], false⟩,
 ⟨⟨(some 6), .mov (.t 19), none⟩, 14, [], false⟩])
 (.seq
 (.reg [
 ⟨(some 20), .mov (.t 6), none⟩,
 ⟨(some 21), .call 40 [(.t 20)], none⟩])
 (.seq
 (.reg [
 ⟨(some 22), .mov (.t 0), none⟩,
 ⟨(some 23), .nchk (.t 22), none⟩,
 ⟨(some 24), .fld 2 (.t 23), none⟩,
 ⟨(some 25), .load 1 false (.t 24), none⟩,
 ⟨(some 26), .mov (.t 1), none⟩,
 ⟨(some 27), .bin .mul (.t 26) (.k (.int .i64 2)), none⟩,
 ⟨(some 28), .bin .add (.t 25) (.t 27), none⟩,
 ⟨(some 29), .nchk (.t 22), none⟩,
 ⟨(some 30), .fld 2 (.t 29), none⟩,
 ⟨none, .store 1 (.t 30) (.t 28), none⟩])
 (.seq
 (.reg [
 ⟨(some 31), .mov (.t 5), none⟩,
 ⟨(some 4), .mov (.t 31), none⟩])
 .ret)))))
theorem a90 : Go.Proofs.Try.f90.body.bind (comp Go.Proofs.Try.prog) = some A90 := by kernel_rfl
theorem r90 : compRVs Go.Proofs.Try.prog Go.Proofs.Try.f90.results.toList = some [.tmp 4] := by kernel_rfl
theorem n90 : (Go.Proofs.Try.f90.name == "runtime.NumGoroutine") = false := by decide +kernel
def E90 : Nat × ACode × Nat × List RV := (90, A90, 32, [.tmp 4])
theorem e90 : EntryOk Go.Proofs.Try.prog E90 := ⟨Go.Proofs.Try.f90, Go.Proofs.Try.func90, n90, a90, Go.Proofs.Try.ntmps90, r90⟩
/-! (*reedpen/gpos.reader).part -/
def A91 : ACode :=
 (.seq
 (.reg [
 ⟨(some 4), .mov (.k .nilp), none⟩])
 (.seq
 (.regd [
 ⟨⟨(some 5), .mov (.t 0), none⟩, 0, [], false⟩,
 ⟨⟨(some 6), .nchk (.t 5), none⟩, 1, [], false⟩,
 ⟨⟨(some 7), .fld 0 (.t 6), none⟩, 2, [], false⟩,
 ⟨⟨(some 8), .load 1 false (.t 7), none⟩, 3, [], false⟩,
 ⟨⟨(some 9), .mov (.t 0), none⟩, 4, [], false⟩,
 ⟨⟨(some 10), .nchk (.t 9), none⟩, 5, [], false⟩,
 ⟨⟨(some 11), .fld 1 (.t 10), none⟩, 6, [], false⟩,
 ⟨⟨(some 12), .load 1 false (.t 11), none⟩, 7, [], false⟩,
 ⟨⟨(some 13), .mov (.t 1), none⟩, 8, [], false⟩,
 ⟨⟨(some 14), .bin .add (.t 12) (.t 13), none⟩, 9, [], false⟩,
 ⟨⟨(some 15), .mov (.t 0), none⟩, 10, [], false⟩,
 ⟨⟨(some 16), .nchk (.t 15), none⟩, 11, [], false⟩,
 ⟨⟨(some 17), .fld 1 (.t 16), none⟩, 12, [], false⟩,
 ⟨⟨(some 18), .load 1 false (.t 17), none⟩, 13, [], false⟩,
 ⟨⟨(some 19), .mov (.t 1), none⟩, 14, [], false⟩,
 ⟨⟨(some 20), .bin .add (.t 18) (.t 19), none⟩, 15, [], false⟩,
 ⟨⟨(some 21), .build [(.vec true []), (.int .i64 0), (.int .i64 0)] [(0, 1, (.t 8)), (1, 1, (.t 14)), (2, 1, (.t 20))], none⟩, 16, [], false⟩,
 ⟨⟨(some 22), .box (.t 21) 123, none⟩, 17, [16, 3, 2, 1, 0, 9, 7, 6, 5, 4, 8, 15, 13, 12, 11, 10, 14], false⟩,
 ⟨⟨(some 4), .mov (.t 22), none⟩, 18, [], false⟩])
 .ret))
theorem a91 : Go.Proofs.Try.f91.body.bind (comp Go.Proofs.Try.prog) = some A91 := by kernel_rfl
theorem r91 : compRVs Go.Proofs.Try.prog Go.Proofs.Try.f91.results.toList = some [.tmp 4] := by kernel_rfl
theorem n91 : (Go.Proofs.Try.f91.name == "runtime.NumGoroutine") = false := by decide +kernel
def E91 : Nat × ACode × Nat × List RV := (91, A91, 23, [.tmp 4])
theorem e91 : EntryOk Go.Proofs.Try.prog E91 := ⟨Go.Proofs.Try.f91, Go.Proofs.Try.func91, n91, a91, Go.Proofs.Try.ntmps91, r91⟩
/-! (*reedpen/gpos.reader).anchors -/
def A92 : ACode :=
 (.seq
 (.reg [
 ⟨(some 4), .mov (.k (.vec true [])), none⟩])
 (.seq
 (.reg [
 ⟨(some 5), .mov (.k (.vec true [])), none⟩])
 (.seq
 (.seq
 (.reg [
 ⟨(some 8), .mov (.t 0), none⟩,
 ⟨(some 9), .mov (.t 1), none⟩,
 ⟨(some 10), .call 90 [(.t 8), (.t 9)], none⟩,
 ⟨(some 11), .len false (.t 10), none⟩,
 ⟨(some 12), .mov (.k (.int .i64 0)), none⟩])
 (.block 0
 (.loop
 (.seq
 (.reg [
 ⟨(some 13), .bin .lss (.t 12) (.t 11), none⟩])
 (.seq
 (.cond (.t 13)
 .skip
 (.exit 0))
 (.seq
 (.block 1
 (.seq
 (.reg [
 ⟨(some 14), .idx 1 (.t 10) (.t 12), none⟩,
 ⟨(some 15), .load 1 false (.t 14), none⟩,
 ⟨(some 7), .mov (.t 15), none⟩])
 (.reg [
 ⟨(some 16), .mov (.t 5), none⟩,
 ⟨(some 17), .mov (.t 0), none⟩,
 ⟨(some 18), .mov (.t 7), none⟩,
 ⟨(some 19), .call 93 [(.t 17), (.t 18)], none⟩,
 ⟨(some 20), .lits 3 53 [(.t 19)], none⟩,
 ⟨(some 21), .app 3 24 53 (.t 16) (.t 20), none⟩,
 ⟨(some 5), .mov (.t 21), none⟩])))
 (.reg [
 ⟨(some 22), .bin .add (.t 12) (.k (.int .i64 1)), none⟩,
 ⟨(some 12), .mov (.t 22), none⟩])))))))
 (.seq
 (.reg [
 ⟨(some 23), .mov (.t 5), none⟩,
 ⟨(some 4), .mov (.t 23), none⟩])
 .ret))))
theorem a92 : Go.Proofs.Try.f92.body.bind (comp Go.Proofs.Try.prog) = some A92 := by kernel_rfl
theorem r92 : compRVs Go.Proofs.Try.prog Go.Proofs.Try.f92.results.toList = some [.tmp 4] := by kernel_rfl
theorem n92 : (Go.Proofs.Try.f92.name == "runtime.NumGoroutine") = false := by decide +kernel
def E92 : Nat × ACode × Nat × List RV := (92, A92, 24, [.tmp 4])
theorem e92 : EntryOk Go.Proofs.Try.prog E92 := ⟨Go.Proofs.Try.f92, Go.Proofs.Try.func92, n92, a92, Go.Proofs.Try.ntmps92, r92⟩
/-! (*reedpen/gpos.reader).anchor -/
def A93 : ACode :=
 (.seq
 (.reg [
 ⟨(some 4), .new [(.bool false), (.int .i64 0), (.int .i64 0)] 53, none⟩])
 (.seq
 (.seq
 (.reg [
 ⟨(some 8), .mov (.t 1), none⟩,
 ⟨(some 9), .bin .eql (.t 8) (.k (.int .i64 0)), none⟩])
 (.cond (.t 9)
 (.seq
 (.reg [
 ⟨(some 10), .build [(.bool false), (.int .i64 0), (.int .i64 0)] [], none⟩,
 ⟨none, .store 3 (.t 4) (.t 10), none⟩])
 .ret)
 .skip))
 (.seq
 (.reg [
 ⟨(some 11), .mov (.t 0), none⟩,
 ⟨(some 12), .mov (.t 1), none⟩,
 ⟨(some 13), .call 91 [(.t 11), (.t 12)], none⟩,
 ⟨(some 5), .mov (.t 13), none⟩])
 (.seq
 (.reg [
 ⟨(some 14), .mov (.t 5), none⟩,
 ⟨(some 15), .call 89 [(.t 14), (.k (.int .i64 1)), (.k (.int .i64 3))], none⟩,
 ⟨(some 6), .mov (.t 15), none⟩])
 (.seq
 (.reg [
 ⟨(some 16), .mov (.t 5), none⟩,
 ⟨(some 17), .call 104 [(.t 16)], none⟩,
 ⟨(some 18), .mov (.t 5), none⟩,
 ⟨(some 19), .call 104 [(.t 18)], none⟩,
 ⟨(some 20), .build [(.bool false), (.int .i64 0), (.int .i64 0)] [(0, 1, (.k (.bool true))), (1, 1, (.t 17)), (2, 1, (.t 19))], none⟩,
 ⟨(some 7), .new [(.bool false), (.int .i64 0), (.int .i64 0)] 53, none⟩,
 ⟨none, .store 3 (.t 7) (.t 20), none⟩])
 (.seq
 (.reg [
 ⟨(some 21), .mov (.t 5), none⟩,
 ⟨(some 22), .mov (.t 6), none⟩,
 ⟨(some 23), .bin .sub (.t 22) (.k (.int .i64 1)), none⟩,
 ⟨(some 24), .call 90 [(.t 21), (.t 23)], none⟩])
 (.seq
 (.reg [
 ⟨(some 25), .load 3 true (.t 7), none⟩,
 ⟨none, .store 3 (.t 4) (.t 25), none⟩])
 .ret)))))))
theorem a93 : Go.Proofs.Try.f93.body.bind (comp Go.Proofs.Try.prog) = some A93 := by kernel_rfl
theorem r93 : compRVs Go.Proofs.Try.prog Go.Proofs.Try.f93.results.toList = some [.cell 4 3 true] := by kernel_rfl
theorem n93 : (Go.Proofs.Try.f93.name == "runtime.NumGoroutine") = false := by decide +kernel
def E93 : Nat × ACode × Nat × List RV := (93, A93, 26, [.cell 4 3 true])
theorem e93 : EntryOk Go.Proofs.Try.prog E93 := ⟨Go.Proofs.Try.f93, Go.Proofs.Try.func93, n93, a93, Go.Proofs.Try.ntmps93, r93⟩
/-! reedpen/context.table$1 -/
def A94 : ACode :=
 (.seq
 (.reg [
 ⟨(some 5), .stuck, none⟩,
 ⟨(some 2), .mov (.t 5), none⟩])
 (.seq
 (.reg [
 ⟨(some 6), .mov (.t 2), none⟩,
 ⟨(some 7), .ifnil true (.t 6), none⟩])
 (.cond (.t 7)
 (.seq
 (.seq
 (.reg [
 ⟨(some 9), .mov (.t 2), none⟩,
 ⟨(some 10), .tas 148 (.t 9), none⟩,
 ⟨(some 8), .mov (.t 10), none⟩,
 ⟨(some 11), .ext 0 (.t 8), none⟩,
 ⟨(some 12), .ext 1 (.t 8), none⟩,
 ⟨(some 3), .new [] 148, none⟩,
 ⟨none, .store 0 (.t 3) (.t 11), none⟩,
 ⟨(some 4), .mov (.t 12), none⟩])
 (.seq
 (.reg [
 ⟨(some 13), .mov (.t 4), none⟩,
 ⟨(some 14), .un .not (.t 13), none⟩])
 (.cond (.t 14)
 (.reg [
 ⟨(some 15), .mov (.t 2), none⟩,
 ⟨none, .pan (.t 15), none⟩])
 .skip)))
 (.reg [
 ⟨none, .store 1 (.t 0) (.k (.vec true [])), none⟩,
 ⟨none, .store 1 (.t 1) (.k (.bool false)), none⟩]))
 .skip)))
theorem a94 : Go.Proofs.Try.f94.body.bind (comp Go.Proofs.Try.prog) = some A94 := by kernel_rfl
theorem r94 : compRVs Go.Proofs.Try.prog Go.Proofs.Try.f94.results.toList = some [] := by kernel_rfl
theorem n94 : (Go.Proofs.Try.f94.name == "runtime.NumGoroutine") = false := by decide +kernel
def E94 : Nat × ACode × Nat × List RV := (94, A94, 16, [])
theorem e94 : EntryOk Go.Proofs.Try.prog E94 := ⟨Go.Proofs.Try.f94, Go.Proofs.Try.func94, n94, a94, Go.Proofs.Try.ntmps94, r94⟩
/-! (*reedpen/context.reader).number -/
def A95 : ACode :=
 (.seq
 (.reg [
 ⟨(some 2), .mov (.k (.int .i64 0)), none⟩])
 (.seq
 (.regd [
 ⟨⟨(some 6), .mov (.t 0), none⟩, 0, [], false⟩,
 ⟨⟨(some 7), .nchk (.t 6), none⟩, 1, [], false⟩,
 ⟨⟨(some 8), .fld 0 (.t 7), none⟩, 2, [], false⟩,
 ⟨⟨(some 9), .load 1 false (.t 8), none⟩, 3, [], false⟩,
 ⟨⟨(some 10), .mov (.t 0), none⟩, 4, [], false⟩,
 ⟨⟨(some 11), .nchk (.t 10), none⟩, 5, [], false⟩,
 ⟨⟨(some 12), .fld 1 (.t 11), none⟩, 6, [], false⟩,
 ⟨⟨(some 13), .load 1 false (.t 12), none⟩, 7, [], false⟩,
 ⟨⟨(some 14), .call 72 [(.t 9), (.t 13)], none⟩, 8, [3, 2, 1, 0, 7, 6, 5, 4], false⟩,
 ⟨⟨(some 5), .mov (.t 14), none⟩, 9, [], false⟩,
 ⟨⟨(some 15), .ext 0 (.t 5), none⟩, 10, [], false⟩,
 ⟨⟨(some 16), .ext 1 (.t 5), none⟩, 11, [], false⟩,
 ⟨⟨(some 3), .mov (.t 15), none⟩, 12, [], false⟩,
 ⟨⟨(some 4), .mov (.t 16), none⟩, 13, [], false⟩])
 (.seq
 (.reg [
 ⟨(some 17), .mov (.t 4), none⟩,
 ⟨(some 18), .call 106 [(.t 17)], none⟩])
 (.seq
 (.reg [
 ⟨(some 19), .mov (.t 0), none⟩,
 ⟨(some 20), .nchk (.t 19), none⟩,
 ⟨(some 21), .fld 1 (.t 20), none⟩,
 ⟨(some 22), .load 1 false (.t 21), none⟩,
 ⟨(some 23), .bin .add (.t 22) (.k (.int .i64 2)), none⟩,
 ⟨(some 24), .nchk (.t 19), none⟩,
 ⟨(some 25), .fld 1 (.t 24), none⟩,
 ⟨none, .store 1 (.t 25) (.t 23), none⟩])
 (.seq
 (.reg [
 ⟨(some 26), .mov (.t 3), none⟩,
 ⟨(some 2), .mov (.t 26), none⟩])
 .ret)))))
theorem a95 : Go.Proofs.Try.f95.body.bind (comp Go.Proofs.Try.prog) = some A95 := by kernel_rfl
theorem r95 : compRVs Go.Proofs.Try.prog Go.Proofs.Try.f95.results.toList = some [.tmp 2] := by kernel_rfl
theorem n95 : (Go.Proofs.Try.f95.name == "runtime.NumGoroutine") = false := by decide +kernel
def E95 : Nat × ACode × Nat × List RV := (95, A95, 27, [.tmp 2])
theorem e95 : EntryOk Go.Proofs.Try.prog E95 := ⟨Go.Proofs.Try.f95, Go.Proofs.Try.func95, n95, a95, Go.Proofs.Try.ntmps95, r95⟩
/-! (*reedpen/context.reader).single -/
def A96 : ACode :=
 (.seq
 (.reg [
 ⟨(some 6), .mov (.k (.vec true [])), none⟩])
 (.seq
 (.reg [
 ⟨(some 13), .mov (.t 0), none⟩,
 ⟨(some 14), .mov (.t 1), none⟩,
 ⟨(some 15), .mov (.t 0), none⟩,
 ⟨(some 16), .call 108 [(.t 15), (.k (.int .i64 1))], none⟩,
 ⟨(some 17), .call 107 [(.t 13), (.t 14), (.t 16)], none⟩,
 ⟨(some 18), .idx 2 (.t 17) (.k (.int .i64 0)), none⟩,
 ⟨(some 19), .fld 0 (.t 18), none⟩,
 ⟨(some 20), .load 1 false (.t 19), none⟩,
 ⟨(some 7), .mov (.t 20), none⟩])
 (.seq
 (.reg [
 ⟨(some 21), .mov (.t 0), none⟩,
 ⟨(some 22), .call 95 [(.t 21)], none⟩,
 ⟨(some 8), .mov (.t 22), none⟩])
 (.seq
 (.reg [
 ⟨(some 23), .mov (.t 8), none⟩,
 ⟨(some 24), .mov (.t 7), none⟩,
 ⟨(some 25), .call 87 [(.t 24)], none⟩,
 ⟨(some 26), .bin .eql (.t 23) (.t 25), none⟩,
 ⟨(some 27), .call 106 [(.t 26)], none⟩])
 (.seq
 (.reg [
 ⟨(some 9), .new [(.vec true [])] 48, none⟩])
 (.seq
 (.seq
 (.reg [
 ⟨(some 28), .mov (.t 7), none⟩,
 ⟨(some 29), .len false (.t 28), none⟩,
 ⟨(some 30), .mov (.k (.int .i64 0)), none⟩])
 (.block 0
 (.loop
 (.seq
 (.reg [
 ⟨(some 31), .bin .lss (.t 30) (.t 29), none⟩])
 (.seq
 (.cond (.t 31)
 .skip
 (.exit 0))
 (.seq
 (.block 1
 (.seq
 (.reg [
 ⟨(some 32), .idx 2 (.t 28) (.t 30), none⟩,
 ⟨(some 33), .load 2 true (.t 32), none⟩,
 ⟨(some 11), .new [(.int .i64 0), (.int .i64 0)] 87, none⟩,
 ⟨none, .store 2 (.t 11) (.t 33), none⟩])
 (.seq
 (.reg [
 ⟨(some 34), .fld 0 (.t 11), none⟩,
 ⟨(some 35), .load 1 false (.t 34), none⟩,
 ⟨(some 12), .mov (.t 35), none⟩])
 (.block 2
 (.loop
 (.seq
 (.seq
 (.reg [
 ⟨(some 36), .mov (.t 12), none⟩,
 ⟨(some 37), .fld 1 (.t 11), none⟩,
 ⟨(some 38), .load 1 false (.t 37), none⟩,
 ⟨(some 39), .bin .leq (.t 36) (.t 38), none⟩,
 ⟨(some 40), .mov (.t 39), none⟩,
 ⟨(some 41), .load 1 false (.t 9), (some (40, true))⟩,
 ⟨(some 42), .len false (.t 41), (some (40, true))⟩,
 ⟨(some 43), .mov (.t 8), (some (40, true))⟩,
 ⟨(some 44), .bin .lss (.t 42) (.t 43), (some (40, true))⟩,
 ⟨(some 45), .pick (.t 40) (.t 44) (.k (.bool false)), none⟩])
 (.cond (.t 45)
 .skip
 (.exit 2)))
 (.seq
 (.block 3
 (.reg [
 ⟨(some 48), .load 1 false (.t 9), none⟩,
 ⟨(some 49), .mov (.t 12), none⟩,
 ⟨(some 50), .lits 1 3 [(.t 49)], none⟩,
 ⟨(some 51), .app 1 8 3 (.t 48) (.t 50), none⟩,
 ⟨none, .store 1 (.t 9) (.t 51), none⟩]))
 (.reg [
 ⟨(some 46), .mov (.t 12), none⟩,
 ⟨(some 47), .bin .add (.t 46) (.k (.int .i64 1)), none⟩,
 ⟨(some 12), .mov (.t 47), none⟩]))))))))
 (.reg [
 ⟨(some 52), .bin .add (.t 30) (.k (.int .i64 1)), none⟩,
 ⟨(some 30), .mov (.t 52), none⟩])))))))
 (.seq
 (.reg [
 ⟨(some 53), .mov (.t 0), none⟩,
 ⟨(some 54), .mov (.t 1), none⟩,
 ⟨(some 55), .mov (.t 0), none⟩,
 ⟨(some 56), .mov (.t 8), none⟩,
 ⟨(some 57), .call 108 [(.t 55), (.t 56)], none⟩,
 ⟨(some 58), .mkfn (.func 110) [] [(.t 9)], none⟩,
 ⟨(some 59), .mov (.t 2), none⟩,
 ⟨(some 60), .build [.nilfn, .nilfn, .nilfn, (.bool false)] [(0, 1, (.k (.fn (.func 111) [] []))), (1, 1, (.k (.fn (.func 111) [] []))), (2, 1, (.k (.fn (.func 111) [] []))), (3, 1, (.t 59))], none⟩,
 ⟨(some 61), .call 109 [(.t 53), (.t 54), (.t 57), (.t 58), (.t 60)], none⟩,
 ⟨(some 6), .mov (.t 61), none⟩])
 .ret)))))))
theorem a96 : Go.Proofs.Try.f96.body.bind (comp Go.Proofs.Try.prog) = some A96 := by kernel_rfl
theorem r96 : compRVs Go.Proofs.Try.prog Go.Proofs.Try.f96.results.toList = some [.tmp 6] := by kernel_rfl
theorem n96 : (Go.Proofs.Try.f96.name == "runtime.NumGoroutine") = false := by decide +kernel
def E96 : Nat × ACode × Nat × List RV := (96, A96, 62, [.tmp 6])
theorem e96 : EntryOk Go.Proofs.Try.prog E96 := ⟨Go.Proofs.Try.f96, Go.Proofs.Try.func96, n96, a96, Go.Proofs.Try.ntmps96, r96⟩
/-! (*reedpen/context.reader).classed -/
def A97 : ACode :=
 (.seq
 (.reg [
 ⟨(some 6), .mov (.k (.vec true [])), none⟩])
 (.seq
 (.reg [
 ⟨(some 13), .mov (.t 0), none⟩,
 ⟨(some 14), .mov (.t 1), none⟩,
 ⟨(some 15), .mov (.t 0), none⟩,
 ⟨(some 16), .call 108 [(.t 15), (.k (.int .i64 1))], none⟩,
 ⟨(some 17), .call 107 [(.t 13), (.t 14), (.t 16)], none⟩,
 ⟨(some 18), .idx 2 (.t 17) (.k (.int .i64 0)), none⟩,
 ⟨(some 19), .fld 0 (.t 18), none⟩,
 ⟨(some 20), .load 1 false (.t 19), none⟩,
 ⟨(some 7), .new [(.vec true [])] 24, none⟩,
 ⟨none, .store 1 (.t 7) (.t 20), none⟩])
 (.seq
 (.reg [
 ⟨(some 8), .mov (.k (.vec true [])), none⟩,
 ⟨(some 9), .mov (.k (.vec true [])), none⟩])
 (.seq
 (.seq
 (.reg [
 ⟨(some 21), .mov (.t 2), none⟩])
 (.cond (.t 21)
 (.reg [
 ⟨(some 22), .mov (.t 0), none⟩,
 ⟨(some 23), .mov (.t 1), none⟩,
 ⟨(some 24), .mov (.t 0), none⟩,
 ⟨(some 25), .call 95 [(.t 24)], none⟩,
 ⟨(some 26), .call 112 [(.t 22), (.t 23), (.t 25)], none⟩,
 ⟨(some 8), .mov (.t 26), none⟩])
 .skip))
 (.seq
 (.reg [
 ⟨(some 27), .mov (.t 0), none⟩,
 ⟨(some 28), .mov (.t 1), none⟩,
 ⟨(some 29), .mov (.t 0), none⟩,
 ⟨(some 30), .call 95 [(.t 29)], none⟩,
 ⟨(some 31), .call 112 [(.t 27), (.t 28), (.t 30)], none⟩,
 ⟨(some 10), .new [(.vec true [])] 30, none⟩,
 ⟨none, .store 1 (.t 10) (.t 31), none⟩])
 (.seq
 (.seq
 (.reg [
 ⟨(some 32), .mov (.t 2), none⟩])
 (.cond (.t 32)
 (.reg [
 ⟨(some 33), .mov (.t 0), none⟩,
 ⟨(some 34), .mov (.t 1), none⟩,
 ⟨(some 35), .mov (.t 0), none⟩,
 ⟨(some 36), .call 95 [(.t 35)], none⟩,
 ⟨(some 37), .call 112 [(.t 33), (.t 34), (.t 36)], none⟩,
 ⟨(some 9), .mov (.t 37), none⟩])
 .skip))
 (.seq
 (.reg [
 ⟨(some 11), .mov (.k (.fn (.func 113) [] [])), none⟩])
 (.seq
 (.reg [
 ⟨(some 38), .mkfn (.func 116) [] [(.t 7), (.t 10)], none⟩,
 ⟨(some 12), .mov (.t 38), none⟩])
 (.seq
 (.regd [
 ⟨⟨(some 39), .mov (.t 0), none⟩, 0, [], false⟩,
 ⟨⟨(some 40), .mov (.t 1), none⟩, 1, [], false⟩,
 ⟨⟨(some 41), .mov (.t 0), none⟩, 2, [], false⟩,
 ⟨⟨(some 42), .mov (.t 0), none⟩, 3, [], false⟩,
 ⟨⟨(some 45), .mov (.t 12), none⟩, 6, [], false⟩,
 ⟨⟨(some 46), .mov (.t 11), none⟩, 7, [], false⟩,
 ⟨⟨(some 47), .mov (.t 8), none⟩, 8, [], false⟩,
 ⟨⟨(some 49), .mov (.t 11), none⟩, 10, [], false⟩,
 ⟨⟨(some 50), .load 1 false (.t 10), none⟩, 11, [], true⟩,
 ⟨⟨(some 52), .mov (.t 11), none⟩, 13, [], false⟩,
 ⟨⟨(some 53), .mov (.t 9), none⟩, 14, [], false⟩,
 ⟨⟨(some 55), .mov (.t 2), none⟩, 16, [], false⟩,
 ⟨⟨(some 43), .call 95 [(.t 42)], none⟩, 4, [3], false⟩,
 ⟨⟨(some 44), .call 108 [(.t 41), (.t 43)], none⟩, 5, [2, 4, 3], false⟩,
 ⟨⟨(some 48), .callv (.t 46) [(.t 47)], none⟩, 9, [7, 8, 5, 2, 4, 3], false⟩,
 ⟨⟨(some 51), .callv (.t 49) [(.t 50)], none⟩, 12, [10, 11, 9, 7, 8, 5, 2, 4, 3], false⟩,
 ⟨⟨(some 54), .callv (.t 52) [(.t 53)], none⟩, 15, [13, 14, 12, 10, 11, 9, 7, 8, 5, 2, 4, 3], false⟩,
 ⟨⟨(some 56), .build [.nilfn, .nilfn, .nilfn, (.bool false)] [(0, 1, (.t 48)), (1, 1, (.t 51)), (2, 1, (.t 54)), (3, 1, (.t 55))], none⟩, 17, [], false⟩,
 ⟨⟨(some 57), .call 109 [(.t 39), (.t 40), (.t 44), (.t 45), (.t 56)], none⟩, 18, [0, 1, 5, 2, 4, 3, 6, 17, 9, 7, 8, 12, 10, 11, 15, 13, 14, 16], false⟩,
 ⟨⟨(some 6), .mov (.t 57), none⟩, 19, [], false⟩])
 .ret)))))))))
theorem a97 : Go.Proofs.Try.f97.body.bind (comp Go.Proofs.Try.prog) = some A97 := by kernel_rfl
theorem r97 : compRVs Go.Proofs.Try.prog Go.Proofs.Try.f97.results.toList = some [.tmp 6] := by kernel_rfl
theorem n97 : (Go.Proofs.Try.f97.name == "runtime.NumGoroutine") = false := by decide +kernel
def E97 : Nat × ACode × Nat × List RV := (97, A97, 58, [.tmp 6])
theorem e97 : EntryOk Go.Proofs.Try.prog E97 := ⟨Go.Proofs.Try.f97, Go.Proofs.Try.func97, n97, a97, Go.Proofs.Try.ntmps97, r97⟩
/-! (*reedpen/context.reader).covered -/
def A98 : ACode :=
 (.seq
 (.reg [
 ⟨(some 6), .mov (.k (.vec true [])), none⟩])
 (.seq
 (.reg [
 ⟨(some 7), .new [(.vec true []), (.vec true []), (.vec true []), (.vec true [])] 45, none⟩])
 (.seq
 (.seq
 (.reg [
 ⟨(some 10), .mov (.t 2), none⟩])
 (.cond (.t 10)
 (.seq
 (.reg [
 ⟨(some 11), .mov (.t 0), none⟩,
 ⟨(some 12), .mov (.t 1), none⟩,
 ⟨(some 13), .mov (.t 0), none⟩,
 ⟨(some 14), .mov (.t 0), none⟩,
 ⟨(some 15), .call 118 [(.t 14), (.k (.int .i64 0)), (.k (.int .i64 16))], none⟩,
 ⟨(some 16), .call 108 [(.t 13), (.t 15)], none⟩,
 ⟨(some 17), .call 107 [(.t 11), (.t 12), (.t 16)], none⟩,
 ⟨(some 18), .fld 0 (.t 7), none⟩,
 ⟨none, .store 1 (.t 18) (.t 17), none⟩])
 (.seq
 (.reg [
 ⟨(some 19), .mov (.t 0), none⟩,
 ⟨(some 20), .mov (.t 1), none⟩,
 ⟨(some 21), .mov (.t 0), none⟩,
 ⟨(some 22), .mov (.t 0), none⟩,
 ⟨(some 23), .call 118 [(.t 22), (.k (.int .i64 1)), (.k (.int .i64 16))], none⟩,
 ⟨(some 24), .call 108 [(.t 21), (.t 23)], none⟩,
 ⟨(some 25), .call 107 [(.t 19), (.t 20), (.t 24)], none⟩,
 ⟨(some 26), .fld 1 (.t 7), none⟩,
 ⟨none, .store 1 (.t 26) (.t 25), none⟩])
 (.seq
 (.reg [
 ⟨(some 27), .mov (.t 0), none⟩,
 ⟨(some 28), .mov (.t 1), none⟩,
 ⟨(some 29), .mov (.t 0), none⟩,
 ⟨(some 30), .mov (.t 0), none⟩,
 ⟨(some 31), .call 118 [(.t 30), (.k (.int .i64 0)), (.k (.int .i64 16))], none⟩,
 ⟨(some 32), .call 108 [(.t 29), (.t 31)], none⟩,
 ⟨(some 33), .call 107 [(.t 27), (.t 28), (.t 32)], none⟩,
 ⟨(some 34), .fld 2 (.t 7), none⟩,
 ⟨none, .store 1 (.t 34) (.t 33), none⟩])
 (.seq
 (.regd [
 ⟨⟨(some 35), .mov (.t 0), none⟩, 0, [], false⟩,
 ⟨⟨(some 36), .mov (.t 0), none⟩, 1, [], false⟩,
 ⟨⟨(some 38), .fld 1 (.t 7), none⟩, 3, [], false⟩,
 ⟨⟨(some 39), .load 1 false (.t 38), none⟩, 4, [], true⟩,
 ⟨⟨(some 40), .len false (.t 39), none⟩, 5, [], false⟩,
 ⟨⟨(some 37), .call 118 [(.t 36), (.k (.int .i64 0)), (.k (.int .i64 16))], none⟩, 2, [1], false⟩,
 ⟨⟨(some 41), .call 119 [(.t 35), (.t 37), (.t 40)], none⟩, 6, [0, 2, 1, 5, 4, 3], false⟩,
 ⟨⟨(some 42), .fld 3 (.t 7), none⟩, 7, [], false⟩,
 ⟨⟨none, .store 1 (.t 42) (.t 41), none⟩, 8, [7, 0, 1, 2, 3, 4, 5, 6], false⟩])
 (.seq
 (.reg [
 ⟨(some 43), .load 4 true (.t 7), none⟩,
 ⟨(some 44), .lits 4 45 [(.t 43)], none⟩,
 ⟨(some 6), .mov (.t 44), none⟩])
 .ret)))))
 .skip))
 (.seq
 (.reg [
 ⟨(some 45), .mov (.t 0), none⟩,
 ⟨(some 46), .call 118 [(.t 45), (.k (.int .i64 1)), (.k (.int .i64 16))], none⟩,
 ⟨(some 47), .mov (.t 0), none⟩,
 ⟨(some 48), .call 118 [(.t 47), (.k (.int .i64 0)), (.k (.int .i64 16))], none⟩,
 ⟨(some 8), .mov (.t 46), none⟩,
 ⟨(some 9), .mov (.t 48), none⟩])
 (.seq
 (.reg [
 ⟨(some 49), .mov (.t 0), none⟩,
 ⟨(some 50), .mov (.t 1), none⟩,
 ⟨(some 51), .mov (.t 0), none⟩,
 ⟨(some 52), .mov (.t 8), none⟩,
 ⟨(some 53), .call 108 [(.t 51), (.t 52)], none⟩,
 ⟨(some 54), .call 107 [(.t 49), (.t 50), (.t 53)], none⟩,
 ⟨(some 55), .fld 1 (.t 7), none⟩,
 ⟨none, .store 1 (.t 55) (.t 54), none⟩])
 (.seq
 (.reg [
 ⟨(some 56), .mov (.t 0), none⟩,
 ⟨(some 57), .mov (.t 9), none⟩,
 ⟨(some 58), .mov (.t 8), none⟩,
 ⟨(some 59), .call 119 [(.t 56), (.t 57), (.t 58)], none⟩,
 ⟨(some 60), .fld 3 (.t 7), none⟩,
 ⟨none, .store 1 (.t 60) (.t 59), none⟩])
 (.seq
 (.reg [
 ⟨(some 61), .load 4 true (.t 7), none⟩,
 ⟨(some 62), .lits 4 45 [(.t 61)], none⟩,
 ⟨(some 6), .mov (.t 62), none⟩])
 .ret)))))))
theorem a98 : Go.Proofs.Try.f98.body.bind (comp Go.Proofs.Try.prog) = some A98 := by kernel_rfl
theorem r98 : compRVs Go.Proofs.Try.prog Go.Proofs.Try.f98.results.toList = some [.tmp 6] := by kernel_rfl
theorem n98 : (Go.Proofs.Try.f98.name == "runtime.NumGoroutine") = false := by decide +kernel
def E98 : Nat × ACode × Nat × List RV := (98, A98, 63, [.tmp 6])
theorem e98 : EntryOk Go.Proofs.Try.prog E98 := ⟨Go.Proofs.Try.f98, Go.Proofs.Try.func98, n98, a98, Go.Proofs.Try.ntmps98, r98⟩
/-! reedpen/octet.read -/
def A99 : ACode :=
 (.seq
 (.reg [
 ⟨(some 6), .mov (.k (.int .i64 0)), none⟩,
 ⟨(some 7), .mov (.k (.bool false)), none⟩])
 (.seq
 (.seq
 (.reg [
 ⟨(some 8), .mov (.t 0), none⟩,
 ⟨(some 9), .mov (.t 1), none⟩,
 ⟨(some 10), .mov (.t 2), none⟩,
 ⟨(some 11), .call 120 [(.t 8), (.t 9), (.t 10)], none⟩,
 ⟨(some 12), .un .not (.t 11), none⟩])
 (.cond (.t 12)
 (.seq
 (.reg [
 ⟨(some 6), .mov (.k (.int .i64 0)), none⟩,
 ⟨(some 7), .mov (.k (.bool false)), none⟩])
 .ret)
 .skip))
 (.seq
 (.reg [
 ⟨(some 13), .mov (.t 0), none⟩,
 ⟨(some 14), .mov (.t 1), none⟩,
 ⟨(some 15), .mov (.t 1), none⟩,
 ⟨(some 16), .mov (.t 2), none⟩,
 ⟨(some 17), .bin .add (.t 15) (.t 16), none⟩,
 ⟨(some 18), .sl 1 (.t 13) (some (.t 14)) (some (.t 17)) none, none⟩,
 ⟨(some 19), .call 121 [(.t 18)], none⟩,
 ⟨(some 6), .mov (.t 19), none⟩,
 ⟨(some 7), .mov (.k (.bool true)), none⟩])
 .ret)))
theorem a99 : Go.Proofs.Try.f99.body.bind (comp Go.Proofs.Try.prog) = some A99 := by kernel_rfl
theorem r99 : compRVs Go.Proofs.Try.prog Go.Proofs.Try.f99.results.toList = some [.tmp 6, .tmp 7] := by kernel_rfl
theorem n99 : (Go.Proofs.Try.f99.name == "runtime.NumGoroutine") = false := by decide +kernel
def E99 : Nat × ACode × Nat × List RV := (99, A99, 20, [.tmp 6, .tmp 7])
theorem e99 : EntryOk Go.Proofs.Try.prog E99 := ⟨Go.Proofs.Try.f99, Go.Proofs.Try.func99, n99, a99, Go.Proofs.Try.ntmps99, r99⟩
/-! reedpen/cover.Cover -/
def A100 : ACode :=
 (.seq
 (.reg [
 ⟨(some 4), .mov (.k (.vec true [])), none⟩,
 ⟨(some 5), .mov (.k (.bool false)), none⟩])
 (.seq
 (.seq
 (.reg [
 ⟨(some 6), .mov (.t 0), none⟩,
 ⟨(some 7), .mov (.t 1), none⟩,
 ⟨(some 8), .call 122 [(.t 6), (.t 7)], none⟩])
 (.block 0
 (.seq
 (.reg [
 ⟨(some 10), .bin .eql (.t 8) (.k (.int .i64 1)), none⟩,
 ⟨(some 9), .mov (.t 10), none⟩])
 (.cond (.t 9)
 (.seq
 (.reg [
 ⟨(some 11), .mov (.t 0), none⟩,
 ⟨(some 12), .mov (.t 1), none⟩,
 ⟨(some 13), .call 123 [(.t 11), (.t 12)], none⟩,
 ⟨(some 14), .ext 0 (.t 13), none⟩,
 ⟨(some 15), .ext 1 (.t 13), none⟩,
 ⟨(some 4), .mov (.t 14), none⟩,
 ⟨(some 5), .mov (.t 15), none⟩])
 .ret)
 (.seq
 (.reg [
 ⟨(some 17), .bin .eql (.t 8) (.k (.int .i64 2)), none⟩,
 ⟨(some 16), .mov (.t 17), none⟩])
 (.cond (.t 16)
 (.seq
 (.reg [
 ⟨(some 18), .mov (.t 0), none⟩,
 ⟨(some 19), .mov (.t 1), none⟩,
 ⟨(some 20), .call 124 [(.t 18), (.t 19)], none⟩,
 ⟨(some 21), .ext 0 (.t 20), none⟩,
 ⟨(some 22), .ext 1 (.t 20), none⟩,
 ⟨(some 4), .mov (.t 21), none⟩,
 ⟨(some 5), .mov (.t 22), none⟩])
 .ret)
 .skip))))))
 (.seq
 (.reg [
 ⟨(some 4), .mov (.k (.vec true [])), none⟩,
 ⟨(some 5), .mov (.k (.bool false)), none⟩])
 .ret)))
theorem a100 : Go.Proofs.Try.f100.body.bind (comp Go.Proofs.Try.prog) = some A100 := by kernel_rfl
theorem r100 : compRVs Go.Proofs.Try.prog Go.Proofs.Try.f100.results.toList = some [.tmp 4, .tmp 5] := by kernel_rfl
theorem n100 : (Go.Proofs.Try.f100.name == "runtime.NumGoroutine") = false := by decide +kernel
def E100 : Nat × ACode × Nat × List RV := (100, A100, 23, [.tmp 4, .tmp 5])
theorem e100 : EntryOk Go.Proofs.Try.prog E100 := ⟨Go.Proofs.Try.f100, Go.Proofs.Try.func100, n100, a100, Go.Proofs.Try.ntmps100, r100⟩
/-! reedpen/octet.Row -/
def A101 : ACode :=
 (.seq
 (.reg [
 ⟨(some 4), .box (.t 0) 22, none⟩,
 ⟨(some 5), .box (.t 1) 3, none⟩,
 ⟨(some 7), .box (.t 3) 3, none⟩,
 ⟨(some 8), .mov (.k (.vec true [])), none⟩,
 ⟨(some 9), .mov (.k (.bool false)), none⟩])
 (.seq
 (.seq
 (.reg [
 ⟨(some 10), .load 1 false (.t 7), none⟩])
 (.block 0
 (.seq
 (.seq
 (.reg [
 ⟨(some 12), .bin .eql (.t 10) (.k (.int .i64 1)), none⟩,
 ⟨(some 11), .mov (.t 12), none⟩])
 (.cond (.t 11)
 .skip
 (.seq
 (.reg [
 ⟨(some 13), .bin .eql (.t 10) (.k (.int .i64 2)), none⟩,
 ⟨(some 11), .mov (.t 13), none⟩])
 (.cond (.t 11)
 .skip
 (.reg [
 ⟨(some 14), .bin .eql (.t 10) (.k (.int .i64 4)), none⟩,
 ⟨(some 11), .mov (.t 14), none⟩])))))
 (.cond (.t 11)
 .skip
 (.seq
 (.reg [
 ⟨(some 8), .mov (.k (.vec true [])), none⟩,
 ⟨(some 9), .mov (.k (.bool false)), none⟩])
 .ret)))))
 (.seq
 (.seq
 (.reg [
 ⟨(some 15), .mov (.t 2), none⟩,
 ⟨(some 16), .bin .lss (.t 15) (.k (.int .i64 0)), none⟩,
 ⟨(some 17), .mov (.t 16), none⟩,
 ⟨(some 18), .mov (.t 2), (some (17, false))⟩,
 ⟨(some 19), .load 1 false (.t 4), (some (17, false))⟩,
 ⟨(some 20), .len false (.t 19), (some (17, false))⟩,
 ⟨(some 21), .bin .gtr (.t 18) (.t 20), (some (17, false))⟩,
 ⟨(some 22), .pick (.t 17) (.k (.bool true)) (.t 21), none⟩,
 ⟨(some 23), .mov (.t 22), none⟩,
 ⟨(some 24), .load 1 false (.t 4), (some (23, false))⟩,
 ⟨(some 25), .load 1 false (.t 5), (some (23, false))⟩,
 ⟨(some 26), .mov (.t 2), (some (23, false))⟩,
 ⟨(some 27), .load 1 false (.t 7), (some (23, false))⟩,
 ⟨(some 28), .bin .mul (.t 26) (.t 27), (some (23, false))⟩,
 ⟨(some 29), .call 120 [(.t 24), (.t 25), (.t 28)], (some (23, false))⟩,
 ⟨(some 30), .un .not (.t 29), (some (23, false))⟩,
 ⟨(some 31), .pick (.t 23) (.k (.bool true)) (.t 30), none⟩])
 (.cond (.t 31)
 (.seq
 (.reg [
 ⟨(some 8), .mov (.k (.vec true [])), none⟩,
 ⟨(some 9), .mov (.k (.bool false)), none⟩])
 .ret)
 .skip))
 (.seq
 (.reg [
 ⟨(some 32), .mov (.t 2), none⟩,
 ⟨(some 33), .mkfn (.func 126) [] [(.t 4), (.t 5), (.t 7)], none⟩,
 ⟨(some 34), .call 125 [(.t 32), (.t 33)], none⟩,
 ⟨(some 8), .mov (.t 34), none⟩,
 ⟨(some 9), .mov (.k (.bool true)), none⟩])
 .ret))))
theorem a101 : Go.Proofs.Try.f101.body.bind (comp Go.Proofs.Try.prog) = some A101 := by kernel_rfl
theorem r101 : compRVs Go.Proofs.Try.prog Go.Proofs.Try.f101.results.toList = some [.tmp 8, .tmp 9] := by kernel_rfl
theorem n101 : (Go.Proofs.Try.f101.name == "runtime.NumGoroutine") = false := by decide +kernel
def E101 : Nat × ACode × Nat × List RV := (101, A101, 35, [.tmp 8, .tmp 9])
theorem e101 : EntryOk Go.Proofs.Try.prog E101 := ⟨Go.Proofs.Try.f101, Go.Proofs.Try.func101, n101, a101, Go.Proofs.Try.ntmps101, r101⟩
/-! (*reedpen/gpos.reader).value$1 -/
def A103 : ACode :=
 (.seq
 (.reg [
 ⟨(some 3), .new [(.int .i64 0), (.int .i64 0), (.int .i64 0), (.int .i64 0)] 89, none⟩])
 (.seq
 (.reg [
 ⟨(some 4), .new [(.int .i64 0), (.int .i64 0), (.int .i64 0), (.int .i64 0), (.int .i64 0), (.int .i64 0), (.int .i64 0), (.int .i64 0)] 156, none⟩])
 (.seq
 (.seq
 (.reg [
 ⟨(some 6), .mov (.k (.int .i64 0)), none⟩])
 (.block 0
 (.loop
 (.seq
 (.reg [
 ⟨(some 7), .bin .lss (.t 6) (.k (.int .i64 8)), none⟩])
 (.seq
 (.cond (.t 7)
 .skip
 (.exit 0))
 (.seq
 (.block 1
 (.seq
 (.reg [
 ⟨(some 8), .mov (.t 6), none⟩,
 ⟨(some 5), .mov (.t 8), none⟩])
 (.seq
 (.reg [
 ⟨(some 9), .load 1 false (.t 1), none⟩,
 ⟨(some 10), .mov (.t 5), none⟩,
 ⟨(some 11), .bin .shr (.t 9) (.t 10), none⟩,
 ⟨(some 12), .bin .and (.t 11) (.k (.int .i64 1)), none⟩,
 ⟨(some 13), .bin .eql (.t 12) (.k (.int .i64 1)), none⟩])
 (.cond (.t 13)
 (.reg [
 ⟨(some 14), .mov (.t 5), none⟩,
 ⟨(some 15), .mov (.t 0), none⟩,
 ⟨(some 16), .call 104 [(.t 15)], none⟩,
 ⟨(some 17), .idxa 1 8 (.t 4) (.t 14), none⟩,
 ⟨none, .store 1 (.t 17) (.t 16), none⟩])
 .skip))))
 (.reg [
 ⟨(some 18), .bin .add (.t 6) (.k (.int .i64 1)), none⟩,
 ⟨(some 6), .mov (.t 18), none⟩])))))))
 (.seq
 (.reg [
 ⟨(some 19), .idxa 1 8 (.t 4) (.k (.int .i64 0)), none⟩,
 ⟨(some 20), .load 1 false (.t 19), none⟩,
 ⟨(some 21), .idxa 1 8 (.t 4) (.k (.int .i64 1)), none⟩,
 ⟨(some 22), .load 1 false (.t 21), none⟩,
 ⟨(some 23), .idxa 1 8 (.t 4) (.k (.int .i64 2)), none⟩,
 ⟨(some 24), .load 1 false (.t 23), none⟩,
 ⟨(some 25), .idxa 1 8 (.t 4) (.k (.int .i64 3)), none⟩,
 ⟨(some 26), .load 1 false (.t 25), none⟩,
 ⟨(some 27), .build [(.int .i64 0), (.int .i64 0), (.int .i64 0), (.int .i64 0)] [(0, 1, (.t 20)), (1, 1, (.t 22)), (2, 1, (.t 24)), (3, 1, (.t 26))], none⟩,
 ⟨none, .store 4 (.t 3) (.t 27), none⟩])
 .ret))))
theorem a103 : Go.Proofs.Try.f103.body.bind (comp Go.Proofs.Try.prog) = some A103 := by kernel_rfl
theorem r103 : compRVs Go.Proofs.Try.prog Go.Proofs.Try.f103.results.toList = some [.cell 3 4 true] := by kernel_rfl
theorem n103 : (Go.Proofs.Try.f103.name == "runtime.NumGoroutine") = false := by decide +kernel
def E103 : Nat × ACode × Nat × List RV := (103, A103, 28, [.cell 3 4 true])
theorem e103 : EntryOk Go.Proofs.Try.prog E103 := ⟨Go.Proofs.Try.f103, Go.Proofs.Try.func103, n103, a103, Go.Proofs.Try.ntmps103, r103⟩
/-! (*reedpen/gpos.reader).signed -/
def A104 : ACode :=
 (.seq
 (.reg [
 ⟨(some 2), .mov (.k (.int .i64 0)), none⟩])
 (.seq
 (.reg [
 ⟨(some 3), .mov (.t 0), none⟩,
 ⟨(some 4), .call 65 [(.t 3)], none⟩,
 ⟨(some 5), .conv .i16 (.t 4), none⟩,
 ⟨(some 6), .conv .i64 (.t 5), none⟩,
 ⟨(some 2), .mov (.t 6), none⟩])
 .ret))
theorem a104 : Go.Proofs.Try.f104.body.bind (comp Go.Proofs.Try.prog) = some A104 := by kernel_rfl
theorem r104 : compRVs Go.Proofs.Try.prog Go.Proofs.Try.f104.results.toList = some [.tmp 2] := by kernel_rfl
theorem n104 : (Go.Proofs.Try.f104.name == "runtime.NumGoroutine") = false := by decide +kernel
def E104 : Nat × ACode × Nat × List RV := (104, A104, 7, [.tmp 2])
theorem e104 : EntryOk Go.Proofs.Try.prog E104 := ⟨Go.Proofs.Try.f104, Go.Proofs.Try.func104, n104, a104, Go.Proofs.Try.ntmps104, r104⟩
/-! reedpen/cover.Classes -/
def A105 : ACode :=
 (.seq
 (.reg [
 ⟨(some 4), .mov (.k (.vec true [])), none⟩,
 ⟨(some 5), .mov (.k (.bool false)), none⟩])
 (.scope
 (.seq
 (.reg [
 ⟨(some 6), .mov (.k (.vec true [])), none⟩])
 (.seq
 (.reg [
 ⟨(some 7), .mov (.k (.bool false)), none⟩])
 (.seq
 (.label 0)
 (.seq
 (.seq
 (.reg [
 ⟨(some 20), .mov (.t 0), none⟩,
 ⟨(some 21), .mov (.t 1), none⟩,
 ⟨(some 22), .call 122 [(.t 20), (.t 21)], none⟩])
 (.block 0
 (.seq
 (.reg [
 ⟨(some 24), .bin .eql (.t 22) (.k (.int .i64 1)), none⟩,
 ⟨(some 23), .mov (.t 24), none⟩])
 (.cond (.t 23)
 (.seq
 (.reg [
 ⟨(some 26), .mov (.t 0), none⟩,
 ⟨(some 27), .mov (.t 1), none⟩,
 ⟨(some 28), .bin .add (.t 27) (.k (.int .i64 2)), none⟩,
 ⟨(some 29), .call 72 [(.t 26), (.t 28)], none⟩,
 ⟨(some 25), .mov (.t 29), none⟩,
 ⟨(some 30), .ext 0 (.t 25), none⟩,
 ⟨(some 31), .ext 1 (.t 25), none⟩,
 ⟨(some 8), .mov (.t 30), none⟩,
 ⟨(some 9), .mov (.t 31), none⟩])
 (.seq
 (.reg [
 ⟨(some 33), .mov (.t 0), none⟩,
 ⟨(some 34), .mov (.t 1), none⟩,
 ⟨(some 35), .bin .add (.t 34) (.k (.int .i64 4)), none⟩,
 ⟨(some 36), .call 72 [(.t 33), (.t 35)], none⟩,
 ⟨(some 32), .mov (.t 36), none⟩,
 ⟨(some 37), .ext 0 (.t 32), none⟩,
 ⟨(some 38), .ext 1 (.t 32), none⟩,
 ⟨(some 10), .mov (.t 37), none⟩,
 ⟨(some 11), .mov (.t 38), none⟩])
 (.seq
 (.reg [
 ⟨(some 40), .mov (.t 0), none⟩,
 ⟨(some 41), .mov (.t 1), none⟩,
 ⟨(some 42), .bin .add (.t 41) (.k (.int .i64 4)), none⟩,
 ⟨(some 43), .bin .add (.t 42) (.k (.int .i64 2)), none⟩,
 ⟨(some 44), .mov (.t 10), none⟩,
 ⟨(some 45), .call 101 [(.t 40), (.t 43), (.t 44), (.k (.int .i64 2))], none⟩,
 ⟨(some 39), .mov (.t 45), none⟩,
 ⟨(some 46), .ext 0 (.t 39), none⟩,
 ⟨(some 47), .ext 1 (.t 39), none⟩,
 ⟨(some 12), .mov (.t 46), none⟩,
 ⟨(some 13), .mov (.t 47), none⟩])
 (.seq
 (.seq
 (.reg [
 ⟨(some 48), .mov (.t 11), none⟩,
 ⟨(some 49), .un .not (.t 48), none⟩,
 ⟨(some 50), .mov (.t 49), none⟩,
 ⟨(some 51), .mov (.t 13), (some (50, false))⟩,
 ⟨(some 52), .un .not (.t 51), (some (50, false))⟩,
 ⟨(some 53), .pick (.t 50) (.k (.bool true)) (.t 52), none⟩,
 ⟨(some 54), .mov (.t 53), none⟩,
 ⟨(some 55), .mov (.t 8), (some (54, false))⟩,
 ⟨(some 56), .mov (.t 10), (some (54, false))⟩,
 ⟨(some 57), .bin .add (.t 55) (.t 56), (some (54, false))⟩,
 ⟨(some 58), .bin .gtr (.t 57) (.k (.int .i64 65536)), (some (54, false))⟩,
 ⟨(some 59), .pick (.t 54) (.k (.bool true)) (.t 58), none⟩])
 (.cond (.t 59)
 (.exit 0)
 .skip))
 (.seq
 (.seq
 (.reg [
 ⟨(some 60), .mov (.t 12), none⟩,
 ⟨(some 61), .len false (.t 60), none⟩,
 ⟨(some 62), .mov (.k (.int .i64 0)), none⟩])
 (.block 1
 (.loop
 (.seq
 (.reg [
 ⟨(some 63), .bin .lss (.t 62) (.t 61), none⟩])
 (.seq
 (.cond (.t 63)
 .skip
 (.exit 1))
 (.seq
 (.block 2
 (.seq
 (.reg [
 ⟨(some 64), .mov (.t 62), none⟩,
 ⟨(some 65), .idx 1 (.t 60) (.t 62), none⟩,
 ⟨(some 66), .load 1 false (.t 65), none⟩,
 ⟨(some 14), .mov (.t 64), none⟩,
 ⟨(some 15), .mov (.t 66), none⟩])
 (.reg [
 ⟨(some 67), .mov (.t 6), none⟩,
 ⟨(some 68), .mov (.t 8), none⟩,
 ⟨(some 69), .mov (.t 14), none⟩,
 ⟨(some 70), .bin .add (.t 68) (.t 69), none⟩,
 ⟨(some 71), .mov (.t 8), none⟩,
 ⟨(some 72), .mov (.t 14), none⟩,
 ⟨(some 73), .bin .add (.t 71) (.t 72), none⟩,
 ⟨(some 74), .mov (.t 15), none⟩,
 ⟨(some 75), .build [(.int .i64 0), (.int .i64 0), (.int .i64 0)] [(0, 1, (.t 70)), (1, 1, (.t 73)), (2, 1, (.t 74))], none⟩,
 ⟨(some 76), .call 127 [(.t 67), (.t 75)], none⟩,
 ⟨(some 6), .mov (.t 76), none⟩])))
 (.reg [
 ⟨(some 77), .bin .add (.t 62) (.k (.int .i64 1)), none⟩,
 ⟨(some 62), .mov (.t 77), none⟩])))))))
 (.reg [
 ⟨(some 7), .mov (.k (.bool true)), none⟩]))))))
 (.seq
 (.reg [
 ⟨(some 79), .bin .eql (.t 22) (.k (.int .i64 2)), none⟩,
 ⟨(some 78), .mov (.t 79), none⟩])
 (.cond (.t 78)
 (.seq
 (.reg [
 ⟨(some 81), .mov (.t 0), none⟩,
 ⟨(some 82), .mov (.t 1), none⟩,
 ⟨(some 83), .call 128 [(.t 81), (.t 82)], none⟩,
 ⟨(some 80), .mov (.t 83), none⟩,
 ⟨(some 84), .ext 0 (.t 80), none⟩,
 ⟨(some 85), .ext 1 (.t 80), none⟩,
 ⟨(some 16), .mov (.t 84), none⟩,
 ⟨(some 17), .mov (.t 85), none⟩])
 (.seq
 (.seq
 (.reg [
 ⟨(some 86), .mov (.t 16), none⟩,
 ⟨(some 87), .len false (.t 86), none⟩,
 ⟨(some 88), .mov (.k (.int .i64 0)), none⟩])
 (.block 3
 (.loop
 (.seq
 (.reg [
 ⟨(some 89), .bin .lss (.t 88) (.t 87), none⟩])
 (.seq
 (.cond (.t 89)
 .skip
 (.exit 3))
 (.seq
 (.block 4
 (.seq
 (.reg [
 ⟨(some 90), .idx 3 (.t 86) (.t 88), none⟩,
 ⟨(some 91), .load 3 true (.t 90), none⟩,
 ⟨(some 19), .new [(.int .i64 0), (.int .i64 0), (.int .i64 0)] 173, none⟩,
 ⟨none, .store 3 (.t 19) (.t 91), none⟩])
 (.reg [
 ⟨(some 92), .mov (.t 6), none⟩,
 ⟨(some 93), .idxa 1 3 (.t 19) (.k (.int .i64 0)), none⟩,
 ⟨(some 94), .load 1 false (.t 93), none⟩,
 ⟨(some 95), .idxa 1 3 (.t 19) (.k (.int .i64 1)), none⟩,
 ⟨(some 96), .load 1 false (.t 95), none⟩,
 ⟨(some 97), .idxa 1 3 (.t 19) (.k (.int .i64 2)), none⟩,
 ⟨(some 98), .load 1 false (.t 97), none⟩,
 ⟨(some 99), .build [(.int .i64 0), (.int .i64 0), (.int .i64 0)] [(0, 1, (.t 94)), (1, 1, (.t 96)), (2, 1, (.t 98))], none⟩,
 ⟨(some 100), .call 127 [(.t 92), (.t 99)], none⟩,
 ⟨(some 6), .mov (.t 100), none⟩])))
 (.reg [
 ⟨(some 101), .bin .add (.t 88) (.k (.int .i64 1)), none⟩,
 ⟨(some 88), .mov (.t 101), none⟩])))))))
 (.reg [
 ⟨(some 102), .mov (.t 17), none⟩,
 ⟨(some 7), .mov (.t 102), none⟩])))
 .skip))))))
 (.seq
 (.reg [
 ⟨(some 103), .mov (.t 6), none⟩,
 ⟨(some 104), .mov (.t 7), none⟩,
 ⟨(some 4), .mov (.t 103), none⟩,
 ⟨(some 5), .mov (.t 104), none⟩])
 .ret)))))))
theorem a105 : Go.Proofs.Try.f105.body.bind (comp Go.Proofs.Try.prog) = some A105 := by kernel_rfl
theorem r105 : compRVs Go.Proofs.Try.prog Go.Proofs.Try.f105.results.toList = some [.tmp 4, .tmp 5] := by kernel_rfl
theorem n105 : (Go.Proofs.Try.f105.name == "runtime.NumGoroutine") = false := by decide +kernel
def E105 : Nat × ACode × Nat × List RV := (105, A105, 105, [.tmp 4, .tmp 5])
theorem e105 : EntryOk Go.Proofs.Try.prog E105 := ⟨Go.Proofs.Try.f105, Go.Proofs.Try.func105, n105, a105, Go.Proofs.Try.ntmps105, r105⟩
/-! reedpen/context.must -/
def A106 : ACode :=
 (.seq
 (.reg [
 ⟨(some 2), .mov (.t 0), none⟩,
 ⟨(some 3), .un .not (.t 2), none⟩])
 (.cond (.t 3)
 (.reg [
 ⟨(some 4), .build [] [], none⟩,
 ⟨(some 5), .mkif 148 (.t 4), none⟩,
 ⟨none, .pan (.t 5), none⟩])
 .skip))
theorem a106 : Go.Proofs.Try.f106.body.bind (comp Go.Proofs.Try.prog) = some A106 := by kernel_rfl
theorem r106 : compRVs Go.Proofs.Try.prog Go.Proofs.Try.f106.results.toList = some [] := by kernel_rfl
theorem n106 : (Go.Proofs.Try.f106.name == "runtime.NumGoroutine") = false := by decide +kernel
def E106 : Nat × ACode × Nat × List RV := (106, A106, 6, [])
theorem e106 : EntryOk Go.Proofs.Try.prog E106 := ⟨Go.Proofs.Try.f106, Go.Proofs.Try.func106, n106, a106, Go.Proofs.Try.ntmps106, r106⟩
/-! (*reedpen/context.reader).covers -/
def A107 : ACode :=
 (.seq
 (.reg [
 ⟨(some 6), .mov (.k (.vec true [])), none⟩])
 (.seq
 (.reg [
 ⟨(some 7), .mov (.k (.vec true [])), none⟩])
 (.seq
 (.seq
 (.reg [
 ⟨(some 12), .mov (.t 2), none⟩,
 ⟨(some 13), .len false (.t 12), none⟩,
 ⟨(some 14), .mov (.k (.int .i64 0)), none⟩])
 (.block 0
 (.loop
 (.seq
 (.reg [
 ⟨(some 15), .bin .lss (.t 14) (.t 13), none⟩])
 (.seq
 (.cond (.t 15)
 .skip
 (.exit 0))
 (.seq
 (.block 1
 (.seq
 (.reg [
 ⟨(some 16), .idx 1 (.t 12) (.t 14), none⟩,
 ⟨(some 17), .load 1 false (.t 16), none⟩,
 ⟨(some 9), .mov (.t 17), none⟩])
 (.seq
 (.reg [
 ⟨(some 19), .mov (.t 0), none⟩,
 ⟨(some 20), .nchk (.t 19), none⟩,
 ⟨(some 21), .fld 0 (.t 20), none⟩,
 ⟨(some 22), .load 1 false (.t 21), none⟩,
 ⟨(some 23), .mov (.t 1), none⟩,
 ⟨(some 24), .mov (.t 9), none⟩,
 ⟨(some 25), .bin .add (.t 23) (.t 24), none⟩,
 ⟨(some 26), .call 100 [(.t 22), (.t 25)], none⟩,
 ⟨(some 18), .mov (.t 26), none⟩,
 ⟨(some 27), .ext 0 (.t 18), none⟩,
 ⟨(some 28), .ext 1 (.t 18), none⟩,
 ⟨(some 10), .mov (.t 27), none⟩,
 ⟨(some 11), .mov (.t 28), none⟩])
 (.seq
 (.reg [
 ⟨(some 29), .mov (.t 11), none⟩,
 ⟨(some 30), .call 106 [(.t 29)], none⟩])
 (.reg [
 ⟨(some 31), .mov (.t 7), none⟩,
 ⟨(some 32), .mov (.t 10), none⟩,
 ⟨(some 33), .build [(.vec true []), (.bool false)] [(0, 1, (.t 32))], none⟩,
 ⟨(some 34), .lits 2 85 [(.t 33)], none⟩,
 ⟨(some 35), .app 2 32 85 (.t 31) (.t 34), none⟩,
 ⟨(some 7), .mov (.t 35), none⟩])))))
 (.reg [
 ⟨(some 36), .bin .add (.t 14) (.k (.int .i64 1)), none⟩,
 ⟨(some 14), .mov (.t 36), none⟩])))))))
 (.seq
 (.reg [
 ⟨(some 37), .mov (.t 7), none⟩,
 ⟨(some 6), .mov (.t 37), none⟩])
 .ret))))
theorem a107 : Go.Proofs.Try.f107.body.bind (comp Go.Proofs.Try.prog) = some A107 := by kernel_rfl
theorem r107 : compRVs Go.Proofs.Try.prog Go.Proofs.Try.f107.results.toList = some [.tmp 6] := by kernel_rfl
theorem n107 : (Go.Proofs.Try.f107.name == "runtime.NumGoroutine") = false := by decide +kernel
def E107 : Nat × ACode × Nat × List RV := (107, A107, 38, [.tmp 6])
theorem e107 : EntryOk Go.Proofs.Try.prog E107 := ⟨Go.Proofs.Try.f107, Go.Proofs.Try.func107, n107, a107, Go.Proofs.Try.ntmps107, r107⟩
/-! (*reedpen/context.reader).row -/
def A108 : ACode :=
 (.seq
 (.reg [
 ⟨(some 4), .mov (.k (.vec true [])), none⟩])
 (.seq
 (.regd [
 ⟨⟨(some 8), .mov (.t 0), none⟩, 0, [], false⟩,
 ⟨⟨(some 9), .nchk (.t 8), none⟩, 1, [], false⟩,
 ⟨⟨(some 10), .fld 0 (.t 9), none⟩, 2, [], false⟩,
 ⟨⟨(some 11), .load 1 false (.t 10), none⟩, 3, [], false⟩,
 ⟨⟨(some 12), .mov (.t 0), none⟩, 4, [], false⟩,
 ⟨⟨(some 13), .nchk (.t 12), none⟩, 5, [], false⟩,
 ⟨⟨(some 14), .fld 1 (.t 13), none⟩, 6, [], false⟩,
 ⟨⟨(some 15), .load 1 false (.t 14), none⟩, 7, [], false⟩,
 ⟨⟨(some 16), .mov (.t 1), none⟩, 8, [], false⟩,
 ⟨⟨(some 17), .call 101 [(.t 11), (.t 15), (.t 16), (.k (.int .i64 2))], none⟩, 9, [3, 2, 1, 0, 7, 6, 5, 4, 8], false⟩,
 ⟨⟨(some 7), .mov (.t 17), none⟩, 10, [], false⟩,
 ⟨⟨(some 18), .ext 0 (.t 7), none⟩, 11, [], false⟩,
 ⟨⟨(some 19), .ext 1 (.t 7), none⟩, 12, [], false⟩,
 ⟨⟨(some 5), .mov (.t 18), none⟩, 13, [], false⟩,
 ⟨⟨(some 6), .mov (.t 19), none⟩, 14, [], false⟩])
 (.seq
 (.reg [
 ⟨(some 20), .mov (.t 6), none⟩,
 ⟨(some 21), .call 106 [(.t 20)], none⟩])
 (.seq
 (.reg [
 ⟨(some 22), .mov (.t 0), none⟩,
 ⟨(some 23), .nchk (.t 22), none⟩,
 ⟨(some 24), .fld 1 (.t 23), none⟩,
 ⟨(some 25), .load 1 false (.t 24), none⟩,
 ⟨(some 26), .mov (.t 1), none⟩,
 ⟨(some 27), .bin .mul (.t 26) (.k (.int .i64 2)), none⟩,
 ⟨(some 28), .bin .add (.t 25) (.t 27), none⟩,
 ⟨(some 29), .nchk (.t 22), none⟩,
 ⟨(some 30), .fld 1 (.t 29), none⟩,
 ⟨none, .store 1 (.t 30) (.t 28), none⟩])
 (.seq
 (.reg [
 ⟨(some 31), .mov (.t 5), none⟩,
 ⟨(some 4), .mov (.t 31), none⟩])
 .ret)))))
theorem a108 : Go.Proofs.Try.f108.body.bind (comp Go.Proofs.Try.prog) = some A108 := by kernel_rfl
theorem r108 : compRVs Go.Proofs.Try.prog Go.Proofs.Try.f108.results.toList = some [.tmp 4] := by kernel_rfl
theorem n108 : (Go.Proofs.Try.f108.name == "runtime.NumGoroutine") = false := by decide +kernel
def E108 : Nat × ACode × Nat × List RV := (108, A108, 32, [.tmp 4])
theorem e108 : EntryOk Go.Proofs.Try.prog E108 := ⟨Go.Proofs.Try.f108, Go.Proofs.Try.func108, n108, a108, Go.Proofs.Try.ntmps108, r108⟩
/-! (*reedpen/context.reader).single$1 -/
def A110 : ACode :=
 (.seq
 (.reg [
 ⟨(some 3), .new [(.vec true []), (.bool false)] 85, none⟩])
 (.seq
 (.reg [
 ⟨(some 4), .load 1 false (.t 1), none⟩,
 ⟨(some 5), .mov (.t 0), none⟩,
 ⟨(some 6), .idx 1 (.t 4) (.t 5), none⟩,
 ⟨(some 7), .load 1 false (.t 6), none⟩,
 ⟨(some 8), .call 111 [(.t 7)], none⟩,
 ⟨none, .store 2 (.t 3) (.t 8), none⟩])
 .ret))
theorem a110 : Go.Proofs.Try.f110.body.bind (comp Go.Proofs.Try.prog) = some A110 := by kernel_rfl
theorem r110 : compRVs Go.Proofs.Try.prog Go.Proofs.Try.f110.results.toList = some [.cell 3 2 true] := by kernel_rfl
theorem n110 : (Go.Proofs.Try.f110.name == "runtime.NumGoroutine") = false := by decide +kernel
def E110 : Nat × ACode × Nat × List RV := (110, A110, 9, [.cell 3 2 true])
theorem e110 : EntryOk Go.Proofs.Try.prog E110 := ⟨Go.Proofs.Try.f110, Go.Proofs.Try.func110, n110, a110, Go.Proofs.Try.ntmps110, r110⟩
/-! reedpen/context.glyph -/
def A111 : ACode :=
 (.seq
 (.reg [
 ⟨(some 2), .new [(.vec true []), (.bool false)] 85, none⟩])
 (.seq
 (.reg [
 ⟨(some 3), .mov (.t 0), none⟩,
 ⟨(some 4), .mov (.t 0), none⟩,
 ⟨(some 5), .build [(.int .i64 0), (.int .i64 0)] [(0, 1, (.t 3)), (1, 1, (.t 4))], none⟩,
 ⟨(some 6), .lits 2 87 [(.t 5)], none⟩,
 ⟨(some 7), .build [(.vec true []), (.bool false)] [(0, 1, (.t 6))], none⟩,
 ⟨none, .store 2 (.t 2) (.t 7), none⟩])
 .ret))
theorem a111 : Go.Proofs.Try.f111.body.bind (comp Go.Proofs.Try.prog) = some A111 := by kernel_rfl
theorem r111 : compRVs Go.Proofs.Try.prog Go.Proofs.Try.f111.results.toList = some [.cell 2 2 true] := by kernel_rfl
theorem n111 : (Go.Proofs.Try.f111.name == "runtime.NumGoroutine") = false := by decide +kernel
def E111 : Nat × ACode × Nat × List RV := (111, A111, 8, [.cell 2 2 true])
theorem e111 : EntryOk Go.Proofs.Try.prog E111 := ⟨Go.Proofs.Try.f111, Go.Proofs.Try.func111, n111, a111, Go.Proofs.Try.ntmps111, r111⟩
/-! (*reedpen/context.reader).classes -/
def A112 : ACode :=
 (.seq
 (.reg [
 ⟨(some 6), .mov (.k (.vec true [])), none⟩])
 (.seq
 (.seq
 (.reg [
 ⟨(some 9), .mov (.t 2), none⟩,
 ⟨(some 10), .bin .eql (.t 9) (.k (.int .i64 0)), none⟩])
 (.cond (.t 10)
 (.seq
 (.reg [
 ⟨(some 6), .mov (.k (.vec true [])), none⟩])
 .ret)
 .skip))
 (.seq
 (.reg [
 ⟨(some 12), .mov (.t 0), none⟩,
 ⟨(some 13), .nchk (.t 12), none⟩,
 ⟨(some 14), .fld 0 (.t 13), none⟩,
 ⟨(some 15), .load 1 false (.t 14), none⟩,
 ⟨(some 16), .mov (.t 1), none⟩,
 ⟨(some 17), .mov (.t 2), none⟩,
 ⟨(some 18), .bin .add (.t 16) (.t 17), none⟩,
 ⟨(some 19), .call 105 [(.t 15), (.t 18)], none⟩,
 ⟨(some 11), .mov (.t 19), none⟩,
 ⟨(some 20), .ext 0 (.t 11), none⟩,
 ⟨(some 21), .ext 1 (.t 11), none⟩,
 ⟨(some 7), .mov (.t 20), none⟩,
 ⟨(some 8), .mov (.t 21), none⟩])
 (.seq
 (.reg [
 ⟨(some 22), .mov (.t 8), none⟩,
 ⟨(some 23), .call 106 [(.t 22)], none⟩])
 (.seq
 (.reg [
 ⟨(some 24), .mov (.t 7), none⟩,
 ⟨(some 6), .mov (.t 24), none⟩])
 .ret)))))
theorem a112 : Go.Proofs.Try.f112.body.bind (comp Go.Proofs.Try.prog) = some A112 := by kernel_rfl
theorem r112 : compRVs Go.Proofs.Try.prog Go.Proofs.Try.f112.results.toList = some [.tmp 6] := by kernel_rfl
theorem n112 : (Go.Proofs.Try.f112.name == "runtime.NumGoroutine") = false := by decide +kernel
def E112 : Nat × ACode × Nat × List RV := (112, A112, 25, [.tmp 6])
theorem e112 : EntryOk Go.Proofs.Try.prog E112 := ⟨Go.Proofs.Try.f112, Go.Proofs.Try.func112, n112, a112, Go.Proofs.Try.ntmps112, r112⟩
/-! (*reedpen/context.reader).classed$1 -/
def A113 : ACode :=
 (.seq
 (.reg [
 ⟨(some 1), .box (.t 0) 30, none⟩,
 ⟨(some 2), .mov (.k .nilfn), none⟩])
 (.seq
 (.reg [
 ⟨(some 3), .mkfn (.func 114) [] [(.t 1)], none⟩,
 ⟨(some 2), .mov (.t 3), none⟩])
 .ret))
theorem a113 : Go.Proofs.Try.f113.body.bind (comp Go.Proofs.Try.prog) = some A113 := by kernel_rfl
theorem r113 : compRVs Go.Proofs.Try.prog Go.Proofs.Try.f113.results.toList = some [.tmp 2] := by kernel_rfl
theorem n113 : (Go.Proofs.Try.f113.name == "runtime.NumGoroutine") = false := by decide +kernel
def E113 : Nat × ACode × Nat × List RV := (113, A113, 4, [.tmp 2])
theorem e113 : EntryOk Go.Proofs.Try.prog E113 := ⟨Go.Proofs.Try.f113, Go.Proofs.Try.func113, n113, a113, Go.Proofs.Try.ntmps113, r113⟩
/-! (*reedpen/context.reader).classed$1$1 -/
def A114 : ACode :=
 (.seq
 (.reg [
 ⟨(some 3), .new [(.vec true []), (.bool false)] 85, none⟩])
 (.seq
 (.reg [
 ⟨(some 4), .load 1 false (.t 1), none⟩,
 ⟨(some 5), .mov (.t 0), none⟩,
 ⟨(some 6), .call 115 [(.t 4), (.t 5)], none⟩,
 ⟨none, .store 2 (.t 3) (.t 6), none⟩])
 .ret))
theorem a114 : Go.Proofs.Try.f114.body.bind (comp Go.Proofs.Try.prog) = some A114 := by kernel_rfl
theorem r114 : compRVs Go.Proofs.Try.prog Go.Proofs.Try.f114.results.toList = some [.cell 3 2 true] := by kernel_rfl
theorem n114 : (Go.Proofs.Try.f114.name == "runtime.NumGoroutine") = false := by decide +kernel
def E114 : Nat × ACode × Nat × List RV := (114, A114, 7, [.cell 3 2 true])
theorem e114 : EntryOk Go.Proofs.Try.prog E114 := ⟨Go.Proofs.Try.f114, Go.Proofs.Try.func114, n114, a114, Go.Proofs.Try.ntmps114, r114⟩
/-! reedpen/cover.With -/
def A115 : ACode :=
 (.seq
 (.reg [
 ⟨(some 4), .new [(.vec true []), (.bool false)] 85, none⟩])
 (.seq
 (.reg [
 ⟨(some 8), .mov (.t 1), none⟩,
 ⟨(some 9), .bin .eql (.t 8) (.k (.int .i64 0)), none⟩,
 ⟨(some 10), .build [(.vec true []), (.bool false)] [(1, 1, (.t 9))], none⟩,
 ⟨(some 5), .new [(.vec true []), (.bool false)] 85, none⟩,
 ⟨none, .store 2 (.t 5) (.t 10), none⟩])
 (.seq
 (.seq
 (.reg [
 ⟨(some 11), .mov (.t 0), none⟩,
 ⟨(some 12), .len false (.t 11), none⟩,
 ⟨(some 13), .mov (.k (.int .i64 0)), none⟩])
 (.block 0
 (.loop
 (.seq
 (.reg [
 ⟨(some 14), .bin .lss (.t 13) (.t 12), none⟩])
 (.seq
 (.cond (.t 14)
 .skip
 (.exit 0))
 (.seq
 (.block 1
 (.seq
 (.reg [
 ⟨(some 15), .idx 3 (.t 11) (.t 13), none⟩,
 ⟨(some 16), .load 3 true (.t 15), none⟩,
 ⟨(some 7), .new [(.int .i64 0), (.int .i64 0), (.int .i64 0)] 125, none⟩,
 ⟨none, .store 3 (.t 7) (.t 16), none⟩])
 (.seq
 (.reg [
 ⟨(some 17), .mov (.t 1), none⟩,
 ⟨(some 18), .bin .eql (.t 17) (.k (.int .i64 0)), none⟩,
 ⟨(some 19), .mov (.t 18), none⟩,
 ⟨(some 20), .fld 2 (.t 7), (some (19, false))⟩,
 ⟨(some 21), .load 1 false (.t 20), (some (19, false))⟩,
 ⟨(some 22), .mov (.t 1), (some (19, false))⟩,
 ⟨(some 23), .bin .eql (.t 21) (.t 22), (some (19, false))⟩,
 ⟨(some 24), .pick (.t 19) (.k (.bool true)) (.t 23), none⟩])
 (.cond (.t 24)
 (.reg [
 ⟨(some 25), .fld 0 (.t 5), none⟩,
 ⟨(some 26), .load 1 false (.t 25), none⟩,
 ⟨(some 27), .fld 0 (.t 7), none⟩,
 ⟨(some 28), .load 1 false (.t 27), none⟩,
 ⟨(some 29), .fld 1 (.t 7), none⟩,
 ⟨(some 30), .load 1 false (.t 29), none⟩,
 ⟨(some 31), .build [(.int .i64 0), (.int .i64 0)] [(0, 1, (.t 28)), (1, 1, (.t 30))], none⟩,
 ⟨(some 32), .call 130 [(.t 26), (.t 31)], none⟩,
 ⟨(some 33), .fld 0 (.t 5), none⟩,
 ⟨none, .store 1 (.t 33) (.t 32), none⟩])
 .skip))))
 (.reg [
 ⟨(some 34), .bin .add (.t 13) (.k (.int .i64 1)), none⟩,
 ⟨(some 13), .mov (.t 34), none⟩])))))))
 (.seq
 (.reg [
 ⟨(some 35), .load 2 true (.t 5), none⟩,
 ⟨none, .store 2 (.t 4) (.t 35), none⟩])
 .ret))))
theorem a115 : Go.Proofs.Try.f115.body.bind (comp Go.Proofs.Try.prog) = some A115 := by kernel_rfl
theorem r115 : compRVs Go.Proofs.Try.prog Go.Proofs.Try.f115.results.toList = some [.cell 4 2 true] := by kernel_rfl
theorem n115 : (Go.Proofs.Try.f115.name == "runtime.NumGoroutine") = false := by decide +kernel
def E115 : Nat × ACode × Nat × List RV := (115, A115, 36, [.cell 4 2 true])
theorem e115 : EntryOk Go.Proofs.Try.prog E115 := ⟨Go.Proofs.Try.f115, Go.Proofs.Try.func115, n115, a115, Go.Proofs.Try.ntmps115, r115⟩
/-! (*reedpen/context.reader).classed$2 -/
def A116 : ACode :=
 (.seq
 (.reg [
 ⟨(some 4), .new [(.vec true []), (.bool false)] 85, none⟩])
 (.seq
 (.regd [
 ⟨⟨(some 5), .load 1 false (.t 1), none⟩, 0, [], true⟩,
 ⟨⟨(some 6), .load 1 false (.t 2), none⟩, 1, [], false⟩,
 ⟨⟨(some 7), .mov (.t 0), none⟩, 2, [], false⟩,
 ⟨⟨(some 8), .call 115 [(.t 6), (.t 7)], none⟩, 3, [1, 2], false⟩,
 ⟨⟨(some 9), .call 117 [(.t 5), (.t 8)], none⟩, 4, [0, 3, 1, 2], false⟩,
 ⟨⟨(some 10), .build [(.vec true []), (.bool false)] [(0, 1, (.t 9))], none⟩, 5, [], false⟩,
 ⟨⟨none, .store 2 (.t 4) (.t 10), none⟩, 6, [5, 4, 0, 3, 1, 2], false⟩])
 .ret))
theorem a116 : Go.Proofs.Try.f116.body.bind (comp Go.Proofs.Try.prog) = some A116 := by kernel_rfl
theorem r116 : compRVs Go.Proofs.Try.prog Go.Proofs.Try.f116.results.toList = some [.cell 4 2 true] := by kernel_rfl
theorem n116 : (Go.Proofs.Try.f116.name == "runtime.NumGoroutine") = false := by decide +kernel
def E116 : Nat × ACode × Nat × List RV := (116, A116, 11, [.cell 4 2 true])
theorem e116 : EntryOk Go.Proofs.Try.prog E116 := ⟨Go.Proofs.Try.f116, Go.Proofs.Try.func116, n116, a116, Go.Proofs.Try.ntmps116, r116⟩
/-! reedpen/cover.Both -/
def A117 : ACode :=
 (.seq
 (.reg [
 ⟨(some 3), .box (.t 1) 85, none⟩,
 ⟨(some 4), .mov (.k (.vec true [])), none⟩])
 (.seq
 (.reg [
 ⟨(some 5), .new [(.vec true [])] 24, none⟩])
 (.seq
 (.reg [
 ⟨(some 12), .mkfn (.func 131) [] [(.t 5)], none⟩,
 ⟨(some 6), .mov (.t 12), none⟩])
 (.seq
 (.seq
 (.reg [
 ⟨(some 13), .mov (.t 0), none⟩,
 ⟨(some 14), .len false (.t 13), none⟩,
 ⟨(some 15), .mov (.k (.int .i64 0)), none⟩])
 (.block 0
 (.loop
 (.seq
 (.reg [
 ⟨(some 16), .bin .lss (.t 15) (.t 14), none⟩])
 (.seq
 (.cond (.t 16)
 .skip
 (.exit 0))
 (.seq
 (.block 1
 (.seq
 (.reg [
 ⟨(some 17), .idx 2 (.t 13) (.t 15), none⟩,
 ⟨(some 18), .load 2 true (.t 17), none⟩,
 ⟨(some 8), .new [(.int .i64 0), (.int .i64 0)] 87, none⟩,
 ⟨none, .store 2 (.t 8) (.t 18), none⟩])
 (.seq
 (.reg [
 ⟨(some 19), .fld 0 (.t 8), none⟩,
 ⟨(some 20), .load 1 false (.t 19), none⟩,
 ⟨(some 9), .mov (.t 20), none⟩])
 (.seq
 (.seq
 (.reg [
 ⟨(some 21), .fld 0 (.t 3), none⟩,
 ⟨(some 22), .load 1 false (.t 21), none⟩,
 ⟨(some 23), .len false (.t 22), none⟩,
 ⟨(some 24), .mov (.k (.int .i64 0)), none⟩])
 (.block 2
 (.loop
 (.seq
 (.reg [
 ⟨(some 25), .bin .lss (.t 24) (.t 23), none⟩])
 (.seq
 (.cond (.t 25)
 .skip
 (.exit 2))
 (.seq
 (.block 3
 (.seq
 (.reg [
 ⟨(some 26), .idx 2 (.t 22) (.t 24), none⟩,
 ⟨(some 27), .load 2 true (.t 26), none⟩,
 ⟨(some 11), .new [(.int .i64 0), (.int .i64 0)] 87, none⟩,
 ⟨none, .store 2 (.t 11) (.t 27), none⟩])
 (.seq
 (.seq
 (.reg [
 ⟨(some 28), .fld 1 (.t 11), none⟩,
 ⟨(some 29), .load 1 false (.t 28), none⟩,
 ⟨(some 30), .fld 0 (.t 8), none⟩,
 ⟨(some 31), .load 1 false (.t 30), none⟩,
 ⟨(some 32), .bin .lss (.t 29) (.t 31), none⟩,
 ⟨(some 33), .mov (.t 32), none⟩,
 ⟨(some 34), .fld 0 (.t 11), (some (33, false))⟩,
 ⟨(some 35), .load 1 false (.t 34), (some (33, false))⟩,
 ⟨(some 36), .fld 1 (.t 8), (some (33, false))⟩,
 ⟨(some 37), .load 1 false (.t 36), (some (33, false))⟩,
 ⟨(some 38), .bin .gtr (.t 35) (.t 37), (some (33, false))⟩,
 ⟨(some 39), .pick (.t 33) (.k (.bool true)) (.t 38), none⟩])
 (.cond (.t 39)
 (.exit 3)
 .skip))
 (.seq
 (.seq
 (.reg [
 ⟨(some 40), .fld 1 (.t 3), none⟩,
 ⟨(some 41), .load 1 false (.t 40), none⟩])
 (.cond (.t 41)
 (.reg [
 ⟨(some 42), .mov (.t 6), none⟩,
 ⟨(some 43), .mov (.t 9), none⟩,
 ⟨(some 44), .fld 0 (.t 11), none⟩,
 ⟨(some 45), .load 1 false (.t 44), none⟩,
 ⟨(some 46), .bin .sub (.t 45) (.k (.int .i64 1)), none⟩,
 ⟨(some 47), .callv (.t 42) [(.t 43), (.t 46)], none⟩])
 (.reg [
 ⟨(some 48), .mov (.t 6), none⟩,
 ⟨(some 49), .mov (.t 9), none⟩,
 ⟨(some 50), .fld 0 (.t 11), none⟩,
 ⟨(some 51), .load 1 false (.t 50), none⟩,
 ⟨(some 52), .minmax true (.t 49) (.t 51), none⟩,
 ⟨(some 53), .fld 1 (.t 8), none⟩,
 ⟨(some 54), .load 1 false (.t 53), none⟩,
 ⟨(some 55), .fld 1 (.t 11), none⟩,
 ⟨(some 56), .load 1 false (.t 55), none⟩,
 ⟨(some 57), .minmax false (.t 54) (.t 56), none⟩,
 ⟨(some 58), .callv (.t 48) [(.t 52), (.t 57)], none⟩])))
 (.reg [
 ⟨(some 59), .fld 1 (.t 11), none⟩,
 ⟨(some 60), .load 1 false (.t 59), none⟩,
 ⟨(some 61), .bin .add (.t 60) (.k (.int .i64 1)), none⟩,
 ⟨(some 9), .mov (.t 61), none⟩])))))
 (.reg [
 ⟨(some 62), .bin .add (.t 24) (.k (.int .i64 1)), none⟩,
 ⟨(some 24), .mov (.t 62), none⟩])))))))
 (.seq
 (.reg [
 ⟨(some 63), .fld 1 (.t 3), none⟩,
 ⟨(some 64), .load 1 false (.t 63), none⟩])
 (.cond (.t 64)
 (.reg [
 ⟨(some 65), .mov (.t 6), none⟩,
 ⟨(some 66), .mov (.t 9), none⟩,
 ⟨(some 67), .fld 1 (.t 8), none⟩,
 ⟨(some 68), .load 1 false (.t 67), none⟩,
 ⟨(some 69), .callv (.t 65) [(.t 66), (.t 68)], none⟩])
 .skip))))))
 (.reg [
 ⟨(some 70), .bin .add (.t 15) (.k (.int .i64 1)), none⟩,
 ⟨(some 15), .mov (.t 70), none⟩])))))))
 (.seq
 (.reg [
 ⟨(some 71), .load 1 false (.t 5), none⟩,
 ⟨(some 4), .mov (.t 71), none⟩])
 .ret)))))
theorem a117 : Go.Proofs.Try.f117.body.bind (comp Go.Proofs.Try.prog) = some A117 := by kernel_rfl
theorem r117 : compRVs Go.Proofs.Try.prog Go.Proofs.Try.f117.results.toList = some [.tmp 4] := by kernel_rfl
theorem n117 : (Go.Proofs.Try.f117.name == "runtime.NumGoroutine") = false := by decide +kernel
def E117 : Nat × ACode × Nat × List RV := (117, A117, 72, [.tmp 4])
theorem e117 : EntryOk Go.Proofs.Try.prog E117 := ⟨Go.Proofs.Try.f117, Go.Proofs.Try.func117, n117, a117, Go.Proofs.Try.ntmps117, r117⟩
/-! (*reedpen/context.reader).count -/
def A118 : ACode :=
 (.seq
 (.reg [
 ⟨(some 6), .mov (.k (.int .i64 0)), none⟩])
 (.seq
 (.reg [
 ⟨(some 8), .mov (.t 0), none⟩,
 ⟨(some 9), .call 95 [(.t 8)], none⟩,
 ⟨(some 7), .mov (.t 9), none⟩])
 (.seq
 (.reg [
 ⟨(some 10), .mov (.t 7), none⟩,
 ⟨(some 11), .mov (.t 1), none⟩,
 ⟨(some 12), .bin .geq (.t 10) (.t 11), none⟩,
 ⟨(some 13), .mov (.t 12), none⟩,
 ⟨(some 14), .mov (.t 7), (some (13, true))⟩,
 ⟨(some 15), .mov (.t 2), (some (13, true))⟩,
 ⟨(some 16), .bin .leq (.t 14) (.t 15), (some (13, true))⟩,
 ⟨(some 17), .pick (.t 13) (.t 16) (.k (.bool false)), none⟩,
 ⟨(some 18), .call 106 [(.t 17)], none⟩])
 (.seq
 (.reg [
 ⟨(some 19), .mov (.t 7), none⟩,
 ⟨(some 6), .mov (.t 19), none⟩])
 .ret))))
theorem a118 : Go.Proofs.Try.f118.body.bind (comp Go.Proofs.Try.prog) = some A118 := by kernel_rfl
theorem r118 : compRVs Go.Proofs.Try.prog Go.Proofs.Try.f118.results.toList = some [.tmp 6] := by kernel_rfl
theorem n118 : (Go.Proofs.Try.f118.name == "runtime.NumGoroutine") = false := by decide +kernel
def E118 : Nat × ACode × Nat × List RV := (118, A118, 20, [.tmp 6])
theorem e118 : EntryOk Go.Proofs.Try.prog E118 := ⟨Go.Proofs.Try.f118, Go.Proofs.Try.func118, n118, a118, Go.Proofs.Try.ntmps118, r118⟩
/-! (*reedpen/context.reader).acts -/
def A119 : ACode :=
 (.seq
 (.reg [
 ⟨(some 6), .mov (.k (.vec true [])), none⟩])
 (.seq
 (.reg [
 ⟨(some 7), .mov (.k (.vec true [])), none⟩])
 (.seq
 (.seq
 (.reg [
 ⟨(some 10), .mov (.t 1), none⟩,
 ⟨(some 11), .mov (.k (.int .i64 0)), none⟩])
 (.block 0
 (.loop
 (.seq
 (.reg [
 ⟨(some 12), .bin .lss (.t 11) (.t 10), none⟩])
 (.seq
 (.cond (.t 12)
 .skip
 (.exit 0))
 (.seq
 (.block 1
 (.seq
 (.reg [
 ⟨(some 13), .mov (.t 0), none⟩,
 ⟨(some 14), .call 95 [(.t 13)], none⟩,
 ⟨(some 15), .mov (.t 0), none⟩,
 ⟨(some 16), .call 95 [(.t 15)], none⟩,
 ⟨(some 8), .mov (.t 14), none⟩,
 ⟨(some 9), .mov (.t 16), none⟩])
 (.seq
 (.reg [
 ⟨(some 17), .mov (.t 8), none⟩,
 ⟨(some 18), .mov (.t 2), none⟩,
 ⟨(some 19), .bin .lss (.t 17) (.t 18), none⟩,
 ⟨(some 20), .call 106 [(.t 19)], none⟩])
 (.reg [
 ⟨(some 21), .mov (.t 7), none⟩,
 ⟨(some 22), .mov (.t 8), none⟩,
 ⟨(some 23), .mov (.t 9), none⟩,
 ⟨(some 24), .build [(.int .i64 0), (.int .i64 0)] [(0, 1, (.t 22)), (1, 1, (.t 23))], none⟩,
 ⟨(some 25), .lits 2 120 [(.t 24)], none⟩,
 ⟨(some 26), .app 2 16 120 (.t 21) (.t 25), none⟩,
 ⟨(some 7), .mov (.t 26), none⟩]))))
 (.reg [
 ⟨(some 27), .bin .add (.t 11) (.k (.int .i64 1)), none⟩,
 ⟨(some 11), .mov (.t 27), none⟩])))))))
 (.seq
 (.reg [
 ⟨(some 28), .mov (.t 7), none⟩,
 ⟨(some 6), .mov (.t 28), none⟩])
 .ret))))
theorem a119 : Go.Proofs.Try.f119.body.bind (comp Go.Proofs.Try.prog) = some A119 := by kernel_rfl
theorem r119 : compRVs Go.Proofs.Try.prog Go.Proofs.Try.f119.results.toList = some [.tmp 6] := by kernel_rfl
theorem n119 : (Go.Proofs.Try.f119.name == "runtime.NumGoroutine") = false := by decide +kernel
def E119 : Nat × ACode × Nat × List RV := (119, A119, 29, [.tmp 6])
theorem e119 : EntryOk Go.Proofs.Try.prog E119 := ⟨Go.Proofs.Try.f119, Go.Proofs.Try.func119, n119, a119, Go.Proofs.Try.ntmps119, r119⟩
/-! reedpen/octet.Within -/
def A120 : ACode :=
 (.seq
 (.reg [
 ⟨(some 6), .mov (.k (.bool false)), none⟩])
 (.seq
 (.reg [
 ⟨(some 7), .mov (.t 1), none⟩,
 ⟨(some 8), .bin .geq (.t 7) (.k (.int .i64 0)), none⟩,
 ⟨(some 9), .mov (.t 8), none⟩,
 ⟨(some 10), .mov (.t 2), (some (9, true))⟩,
 ⟨(some 11), .bin .geq (.t 10) (.k (.int .i64 0)), (some (9, true))⟩,
 ⟨(some 12), .pick (.t 9) (.t 11) (.k (.bool false)), none⟩,
 ⟨(some 13), .mov (.t 12), none⟩,
 ⟨(some 14), .mov (.t 2), (some (13, true))⟩,
 ⟨(some 15), .mov (.t 0), (some (13, true))⟩,
 ⟨(some 16), .len false (.t 15), (some (13, true))⟩,
 ⟨(some 17), .bin .leq (.t 14) (.t 16), (some (13, true))⟩,
 ⟨(some 18), .pick (.t 13) (.t 17) (.k (.bool false)), none⟩,
 ⟨(some 19), .mov (.t 18), none⟩,
 ⟨(some 20), .mov (.t 1), (some (19, true))⟩,
 ⟨(some 21), .mov (.t 0), (some (19, true))⟩,
 ⟨(some 22), .len false (.t 21), (some (19, true))⟩,
 ⟨(some 23), .mov (.t 2), (some (19, true))⟩,
 ⟨(some 24), .bin .sub (.t 22) (.t 23), (some (19, true))⟩,
 ⟨(some 25), .bin .leq (.t 20) (.t 24), (some (19, true))⟩,
 ⟨(some 26), .pick (.t 19) (.t 25) (.k (.bool false)), none⟩,
 ⟨(some 6), .mov (.t 26), none⟩])
 .ret))
theorem a120 : Go.Proofs.Try.f120.body.bind (comp Go.Proofs.Try.prog) = some A120 := by kernel_rfl
theorem r120 : compRVs Go.Proofs.Try.prog Go.Proofs.Try.f120.results.toList = some [.tmp 6] := by kernel_rfl
theorem n120 : (Go.Proofs.Try.f120.name == "runtime.NumGoroutine") = false := by decide +kernel
def E120 : Nat × ACode × Nat × List RV := (120, A120, 27, [.tmp 6])
theorem e120 : EntryOk Go.Proofs.Try.prog E120 := ⟨Go.Proofs.Try.f120, Go.Proofs.Try.func120, n120, a120, Go.Proofs.Try.ntmps120, r120⟩
/-! reedpen/octet.number -/
def A121 : ACode :=
 (.seq
 (.reg [
 ⟨(some 2), .mov (.k (.int .i64 0)), none⟩])
 (.seq
 (.reg [
 ⟨(some 3), .mov (.k (.int .i64 0)), none⟩])
 (.seq
 (.seq
 (.reg [
 ⟨(some 6), .mov (.t 0), none⟩,
 ⟨(some 7), .len false (.t 6), none⟩,
 ⟨(some 8), .mov (.k (.int .i64 0)), none⟩])
 (.block 0
 (.loop
 (.seq
 (.reg [
 ⟨(some 9), .bin .lss (.t 8) (.t 7), none⟩])
 (.seq
 (.cond (.t 9)
 .skip
 (.exit 0))
 (.seq
 (.block 1
 (.seq
 (.reg [
 ⟨(some 10), .idx 1 (.t 6) (.t 8), none⟩,
 ⟨(some 11), .load 1 false (.t 10), none⟩,
 ⟨(some 5), .mov (.t 11), none⟩])
 (.reg [
 ⟨(some 12), .mov (.t 3), none⟩,
 ⟨(some 13), .bin .shl (.t 12) (.k (.int .u64 8)), none⟩,
 ⟨(some 14), .mov (.t 5), none⟩,
 ⟨(some 15), .conv .i64 (.t 14), none⟩,
 ⟨(some 16), .bin .or (.t 13) (.t 15), none⟩,
 ⟨(some 3), .mov (.t 16), none⟩])))
 (.reg [
 ⟨(some 17), .bin .add (.t 8) (.k (.int .i64 1)), none⟩,
 ⟨(some 8), .mov (.t 17), none⟩])))))))
 (.seq
 (.reg [
 ⟨(some 18), .mov (.t 3), none⟩,
 ⟨(some 2), .mov (.t 18), none⟩])
 .ret))))
theorem a121 : Go.Proofs.Try.f121.body.bind (comp Go.Proofs.Try.prog) = some A121 := by kernel_rfl
theorem r121 : compRVs Go.Proofs.Try.prog Go.Proofs.Try.f121.results.toList = some [.tmp 2] := by kernel_rfl
theorem n121 : (Go.Proofs.Try.f121.name == "runtime.NumGoroutine") = false := by decide +kernel
def E121 : Nat × ACode × Nat × List RV := (121, A121, 19, [.tmp 2])
theorem e121 : EntryOk Go.Proofs.Try.prog E121 := ⟨Go.Proofs.Try.f121, Go.Proofs.Try.func121, n121, a121, Go.Proofs.Try.ntmps121, r121⟩
/-! reedpen/cover.format -/
def A122 : ACode :=
 (.seq
 (.reg [
 ⟨(some 4), .mov (.k (.int .i64 0)), none⟩])
 (.seq
 (.reg [
 ⟨(some 8), .mov (.t 0), none⟩,
 ⟨(some 9), .mov (.t 1), none⟩,
 ⟨(some 10), .call 72 [(.t 8), (.t 9)], none⟩,
 ⟨(some 7), .mov (.t 10), none⟩,
 ⟨(some 11), .ext 0 (.t 7), none⟩,
 ⟨(some 12), .ext 1 (.t 7), none⟩,
 ⟨(some 5), .mov (.t 11), none⟩,
 ⟨(some 6), .mov (.t 12), none⟩])
 (.seq
 (.seq
 (.reg [
 ⟨(some 13), .mov (.t 6), none⟩,
 ⟨(some 14), .un .not (.t 13), none⟩])
 (.cond (.t 14)
 (.seq
 (.reg [
 ⟨(some 4), .mov (.k (.int .i64 0)), none⟩])
 .ret)
 .skip))
 (.seq
 (.reg [
 ⟨(some 15), .mov (.t 5), none⟩,
 ⟨(some 4), .mov (.t 15), none⟩])
 .ret))))
theorem a122 : Go.Proofs.Try.f122.body.bind (comp Go.Proofs.Try.prog) = some A122 := by kernel_rfl
theorem r122 : compRVs Go.Proofs.Try.prog Go.Proofs.Try.f122.results.toList = some [.tmp 4] := by kernel_rfl
theorem n122 : (Go.Proofs.Try.f122.name == "runtime.NumGoroutine") = false := by decide +kernel
def E122 : Nat × ACode × Nat × List RV := (122, A122, 16, [.tmp 4])
theorem e122 : EntryOk Go.Proofs.Try.prog E122 := ⟨Go.Proofs.Try.f122, Go.Proofs.Try.func122, n122, a122, Go.Proofs.Try.ntmps122, r122⟩
/-! reedpen/cover.glyphs -/
def A123 : ACode :=
 (.seq
 (.reg [
 ⟨(some 4), .mov (.k (.vec true [])), none⟩,
 ⟨(some 5), .mov (.k (.bool false)), none⟩])
 (.seq
 (.reg [
 ⟨(some 15), .mov (.t 0), none⟩,
 ⟨(some 16), .mov (.t 1), none⟩,
 ⟨(some 17), .bin .add (.t 16) (.k (.int .i64 2)), none⟩,
 ⟨(some 18), .call 72 [(.t 15), (.t 17)], none⟩,
 ⟨(some 14), .mov (.t 18), none⟩,
 ⟨(some 19), .ext 0 (.t 14), none⟩,
 ⟨(some 20), .ext 1 (.t 14), none⟩,
 ⟨(some 6), .mov (.t 19), none⟩,
 ⟨(some 7), .mov (.t 20), none⟩])
 (.seq
 (.reg [
 ⟨(some 22), .mov (.t 0), none⟩,
 ⟨(some 23), .mov (.t 1), none⟩,
 ⟨(some 24), .bin .add (.t 23) (.k (.int .i64 4)), none⟩,
 ⟨(some 25), .mov (.t 6), none⟩,
 ⟨(some 26), .call 101 [(.t 22), (.t 24), (.t 25), (.k (.int .i64 2))], none⟩,
 ⟨(some 21), .mov (.t 26), none⟩,
 ⟨(some 27), .ext 0 (.t 21), none⟩,
 ⟨(some 28), .ext 1 (.t 21), none⟩,
 ⟨(some 8), .mov (.t 27), none⟩,
 ⟨(some 9), .mov (.t 28), none⟩])
 (.seq
 (.seq
 (.reg [
 ⟨(some 29), .mov (.t 7), none⟩,
 ⟨(some 30), .un .not (.t 29), none⟩,
 ⟨(some 31), .mov (.t 30), none⟩,
 ⟨(some 32), .mov (.t 9), (some (31, false))⟩,
 ⟨(some 33), .un .not (.t 32), (some (31, false))⟩,
 ⟨(some 34), .pick (.t 31) (.k (.bool true)) (.t 33), none⟩])
 (.cond (.t 34)
 (.seq
 (.reg [
 ⟨(some 4), .mov (.k (.vec true [])), none⟩,
 ⟨(some 5), .mov (.k (.bool false)), none⟩])
 .ret)
 .skip))
 (.seq
 (.reg [
 ⟨(some 10), .mov (.k (.vec true [])), none⟩])
 (.seq
 (.reg [
 ⟨(some 11), .mov (.k (.int .i64 (-1))), none⟩])
 (.seq
 (.seq
 (.reg [
 ⟨(some 35), .mov (.t 8), none⟩,
 ⟨(some 36), .len false (.t 35), none⟩,
 ⟨(some 37), .mov (.k (.int .i64 0)), none⟩])
 (.block 0
 (.loop
 (.seq
 (.reg [
 ⟨(some 38), .bin .lss (.t 37) (.t 36), none⟩])
 (.seq
 (.cond (.t 38)
 .skip
 (.exit 0))
 (.seq
 (.block 1
 (.seq
 (.reg [
 ⟨(some 39), .idx 1 (.t 35) (.t 37), none⟩,
 ⟨(some 40), .load 1 false (.t 39), none⟩,
 ⟨(some 13), .mov (.t 40), none⟩])
 (.seq
 (.seq
 (.reg [
 ⟨(some 41), .mov (.t 13), none⟩,
 ⟨(some 42), .mov (.t 11), none⟩,
 ⟨(some 43), .bin .leq (.t 41) (.t 42), none⟩])
 (.cond (.t 43)
 (.seq
 (.reg [
 ⟨(some 4), .mov (.k (.vec true [])), none⟩,
 ⟨(some 5), .mov (.k (.bool false)), none⟩])
 .ret)
 .skip))
 (.seq
 (.reg [
 ⟨(some 44), .mov (.t 13), none⟩,
 ⟨(some 11), .mov (.t 44), none⟩])
 (.reg [
 ⟨(some 45), .mov (.t 10), none⟩,
 ⟨(some 46), .mov (.t 13), none⟩,
 ⟨(some 47), .mov (.t 13), none⟩,
 ⟨(some 48), .build [(.int .i64 0), (.int .i64 0)] [(0, 1, (.t 46)), (1, 1, (.t 47))], none⟩,
 ⟨(some 49), .call 130 [(.t 45), (.t 48)], none⟩,
 ⟨(some 10), .mov (.t 49), none⟩])))))
 (.reg [
 ⟨(some 50), .bin .add (.t 37) (.k (.int .i64 1)), none⟩,
 ⟨(some 37), .mov (.t 50), none⟩])))))))
 (.seq
 (.reg [
 ⟨(some 51), .mov (.t 10), none⟩,
 ⟨(some 4), .mov (.t 51), none⟩,
 ⟨(some 5), .mov (.k (.bool true)), none⟩])
 .ret))))))))
theorem a123 : Go.Proofs.Try.f123.body.bind (comp Go.Proofs.Try.prog) = some A123 := by kernel_rfl
theorem r123 : compRVs Go.Proofs.Try.prog Go.Proofs.Try.f123.results.toList = some [.tmp 4, .tmp 5] := by kernel_rfl
theorem n123 : (Go.Proofs.Try.f123.name == "runtime.NumGoroutine") = false := by decide +kernel
def E123 : Nat × ACode × Nat × List RV := (123, A123, 52, [.tmp 4, .tmp 5])
theorem e123 : EntryOk Go.Proofs.Try.prog E123 := ⟨Go.Proofs.Try.f123, Go.Proofs.Try.func123, n123, a123, Go.Proofs.Try.ntmps123, r123⟩
/-! reedpen/cover.ranges -/
def A124 : ACode :=
 (.seq
 (.reg [
 ⟨(some 4), .mov (.k (.vec true [])), none⟩,
 ⟨(some 5), .mov (.k (.bool false)), none⟩])
 (.seq
 (.reg [
 ⟨(some 13), .mov (.t 0), none⟩,
 ⟨(some 14), .mov (.t 1), none⟩,
 ⟨(some 15), .call 128 [(.t 13), (.t 14)], none⟩,
 ⟨(some 12), .mov (.t 15), none⟩,
 ⟨(some 16), .ext 0 (.t 12), none⟩,
 ⟨(some 17), .ext 1 (.t 12), none⟩,
 ⟨(some 6), .mov (.t 16), none⟩,
 ⟨(some 7), .mov (.t 17), none⟩])
 (.seq
 (.seq
 (.reg [
 ⟨(some 18), .mov (.t 7), none⟩,
 ⟨(some 19), .un .not (.t 18), none⟩])
 (.cond (.t 19)
 (.seq
 (.reg [
 ⟨(some 4), .mov (.k (.vec true [])), none⟩,
 ⟨(some 5), .mov (.k (.bool false)), none⟩])
 .ret)
 .skip))
 (.seq
 (.reg [
 ⟨(some 8), .mov (.k (.vec true [])), none⟩])
 (.seq
 (.reg [
 ⟨(some 9), .mov (.k (.int .i64 0)), none⟩])
 (.seq
 (.seq
 (.reg [
 ⟨(some 20), .mov (.t 6), none⟩,
 ⟨(some 21), .len false (.t 20), none⟩,
 ⟨(some 22), .mov (.k (.int .i64 0)), none⟩])
 (.block 0
 (.loop
 (.seq
 (.reg [
 ⟨(some 23), .bin .lss (.t 22) (.t 21), none⟩])
 (.seq
 (.cond (.t 23)
 .skip
 (.exit 0))
 (.seq
 (.block 1
 (.seq
 (.reg [
 ⟨(some 24), .idx 3 (.t 20) (.t 22), none⟩,
 ⟨(some 25), .load 3 true (.t 24), none⟩,
 ⟨(some 11), .new [(.int .i64 0), (.int .i64 0), (.int .i64 0)] 173, none⟩,
 ⟨none, .store 3 (.t 11) (.t 25), none⟩])
 (.seq
 (.seq
 (.reg [
 ⟨(some 26), .idxa 1 3 (.t 11) (.k (.int .i64 2)), none⟩,
 ⟨(some 27), .load 1 false (.t 26), none⟩,
 ⟨(some 28), .mov (.t 9), none⟩,
 ⟨(some 29), .bin .neq (.t 27) (.t 28), none⟩])
 (.cond (.t 29)
 (.seq
 (.reg [
 ⟨(some 4), .mov (.k (.vec true [])), none⟩,
 ⟨(some 5), .mov (.k (.bool false)), none⟩])
 .ret)
 .skip))
 (.seq
 (.reg [
 ⟨(some 30), .mov (.t 9), none⟩,
 ⟨(some 31), .idxa 1 3 (.t 11) (.k (.int .i64 1)), none⟩,
 ⟨(some 32), .load 1 false (.t 31), none⟩,
 ⟨(some 33), .idxa 1 3 (.t 11) (.k (.int .i64 0)), none⟩,
 ⟨(some 34), .load 1 false (.t 33), none⟩,
 ⟨(some 35), .bin .sub (.t 32) (.t 34), none⟩,
 ⟨(some 36), .bin .add (.t 35) (.k (.int .i64 1)), none⟩,
 ⟨(some 37), .bin .add (.t 30) (.t 36), none⟩,
 ⟨(some 9), .mov (.t 37), none⟩])
 (.reg [
 ⟨(some 38), .mov (.t 8), none⟩,
 ⟨(some 39), .idxa 1 3 (.t 11) (.k (.int .i64 0)), none⟩,
 ⟨(some 40), .load 1 false (.t 39), none⟩,
 ⟨(some 41), .idxa 1 3 (.t 11) (.k (.int .i64 1)), none⟩,
 ⟨(some 42), .load 1 false (.t 41), none⟩,
 ⟨(some 43), .build [(.int .i64 0), (.int .i64 0)] [(0, 1, (.t 40)), (1, 1, (.t 42))], none⟩,
 ⟨(some 44), .call 130 [(.t 38), (.t 43)], none⟩,
 ⟨(some 8), .mov (.t 44), none⟩])))))
 (.reg [
 ⟨(some 45), .bin .add (.t 22) (.k (.int .i64 1)), none⟩,
 ⟨(some 22), .mov (.t 45), none⟩])))))))
 (.seq
 (.reg [
 ⟨(some 46), .mov (.t 8), none⟩,
 ⟨(some 4), .mov (.t 46), none⟩,
 ⟨(some 5), .mov (.k (.bool true)), none⟩])
 .ret)))))))
theorem a124 : Go.Proofs.Try.f124.body.bind (comp Go.Proofs.Try.prog) = some A124 := by kernel_rfl
theorem r124 : compRVs Go.Proofs.Try.prog Go.Proofs.Try.f124.results.toList = some [.tmp 4, .tmp 5] := by kernel_rfl
theorem n124 : (Go.Proofs.Try.f124.name == "runtime.NumGoroutine") = false := by decide +kernel
def E124 : Nat × ACode × Nat × List RV := (124, A124, 47, [.tmp 4, .tmp 5])
theorem e124 : EntryOk Go.Proofs.Try.prog E124 := ⟨Go.Proofs.Try.f124, Go.Proofs.Try.func124, n124, a124, Go.Proofs.Try.ntmps124, r124⟩
/-! reedpen/octet.many[int] -/
def A125 : ACode :=
 (.seq
 (.reg [
 ⟨(some 4), .mov (.k (.vec true [])), none⟩])
 (.seq
 (.reg [
 ⟨(some 5), .mov (.k (.vec true [])), none⟩])
 (.seq
 (.seq
 (.reg [
 ⟨(some 7), .mov (.t 0), none⟩,
 ⟨(some 8), .mov (.k (.int .i64 0)), none⟩])
 (.block 0
 (.loop
 (.seq
 (.reg [
 ⟨(some 9), .bin .lss (.t 8) (.t 7), none⟩])
 (.seq
 (.cond (.t 9)
 .skip
 (.exit 0))
 (.seq
 (.block 1
 (.seq
 (.reg [
 ⟨(some 10), .mov (.t 8), none⟩,
 ⟨(some 6), .mov (.t 10), none⟩])
 (.reg [
 ⟨(some 11), .mov (.t 5), none⟩,
 ⟨(some 12), .mov (.t 1), none⟩,
 ⟨(some 13), .mov (.t 6), none⟩,
 ⟨(some 14), .callv (.t 12) [(.t 13)], none⟩,
 ⟨(some 15), .lits 1 3 [(.t 14)], none⟩,
 ⟨(some 16), .app 1 8 3 (.t 11) (.t 15), none⟩,
 ⟨(some 5), .mov (.t 16), none⟩])))
 (.reg [
 ⟨(some 17), .bin .add (.t 8) (.k (.int .i64 1)), none⟩,
 ⟨(some 8), .mov (.t 17), none⟩])))))))
 (.seq
 (.reg [
 ⟨(some 18), .mov (.t 5), none⟩,
 ⟨(some 4), .mov (.t 18), none⟩])
 .ret))))
theorem a125 : Go.Proofs.Try.f125.body.bind (comp Go.Proofs.Try.prog) = some A125 := by kernel_rfl
theorem r125 : compRVs Go.Proofs.Try.prog Go.Proofs.Try.f125.results.toList = some [.tmp 4] := by kernel_rfl
theorem n125 : (Go.Proofs.Try.f125.name == "runtime.NumGoroutine") = false := by decide +kernel
def E125 : Nat × ACode × Nat × List RV := (125, A125, 19, [.tmp 4])
theorem e125 : EntryOk Go.Proofs.Try.prog E125 := ⟨Go.Proofs.Try.f125, Go.Proofs.Try.func125, n125, a125, Go.Proofs.Try.ntmps125, r125⟩
/-! reedpen/octet.Row$1 -/
def A126 : ACode :=
 (.seq
 (.reg [
 ⟨(some 5), .mov (.k (.int .i64 0)), none⟩])
 (.seq
 (.reg [
 ⟨(some 6), .load 1 false (.t 1), none⟩,
 ⟨(some 7), .load 1 false (.t 2), none⟩,
 ⟨(some 8), .mov (.t 0), none⟩,
 ⟨(some 9), .load 1 false (.t 3), none⟩,
 ⟨(some 10), .bin .mul (.t 8) (.t 9), none⟩,
 ⟨(some 11), .bin .add (.t 7) (.t 10), none⟩,
 ⟨(some 12), .load 1 false (.t 2), none⟩,
 ⟨(some 13), .mov (.t 0), none⟩,
 ⟨(some 14), .bin .add (.t 13) (.k (.int .i64 1)), none⟩,
 ⟨(some 15), .load 1 false (.t 3), none⟩,
 ⟨(some 16), .bin .mul (.t 14) (.t 15), none⟩,
 ⟨(some 17), .bin .add (.t 12) (.t 16), none⟩,
 ⟨(some 18), .sl 1 (.t 6) (some (.t 11)) (some (.t 17)) none, none⟩,
 ⟨(some 19), .call 121 [(.t 18)], none⟩,
 ⟨(some 5), .mov (.t 19), none⟩])
 .ret))
theorem a126 : Go.Proofs.Try.f126.body.bind (comp Go.Proofs.Try.prog) = some A126 := by kernel_rfl
theorem r126 : compRVs Go.Proofs.Try.prog Go.Proofs.Try.f126.results.toList = some [.tmp 5] := by kernel_rfl
theorem n126 : (Go.Proofs.Try.f126.name == "runtime.NumGoroutine") = false := by decide +kernel
def E126 : Nat × ACode × Nat × List RV := (126, A126, 20, [.tmp 5])
theorem e126 : EntryOk Go.Proofs.Try.prog E126 := ⟨Go.Proofs.Try.f126, Go.Proofs.Try.func126, n126, a126, Go.Proofs.Try.ntmps126, r126⟩
/-! reedpen/cover.classed -/
def A127 : ACode :=
 (.seq
 (.reg [
 ⟨(some 3), .box (.t 1) 125, none⟩,
 ⟨(some 4), .mov (.k (.vec true [])), none⟩])
 (.seq
 (.seq
 (.reg [
 ⟨(some 6), .fld 2 (.t 3), none⟩,
 ⟨(some 7), .load 1 false (.t 6), none⟩,
 ⟨(some 8), .bin .eql (.t 7) (.k (.int .i64 0)), none⟩])
 (.cond (.t 8)
 (.seq
 (.reg [
 ⟨(some 9), .mov (.t 0), none⟩,
 ⟨(some 4), .mov (.t 9), none⟩])
 .ret)
 .skip))
 (.seq
 (.seq
 (.reg [
 ⟨(some 10), .mov (.t 0), none⟩,
 ⟨(some 11), .len false (.t 10), none⟩,
 ⟨(some 5), .mov (.t 11), none⟩])
 (.seq
 (.regd [
 ⟨⟨(some 12), .mov (.t 5), none⟩, 0, [], false⟩,
 ⟨⟨(some 13), .bin .gtr (.t 12) (.k (.int .i64 0)), none⟩, 1, [], false⟩,
 ⟨⟨(some 14), .mov (.t 13), none⟩, 2, [], false⟩,
 ⟨⟨(some 15), .mov (.t 0), (some (14, true))⟩, 3, [], false⟩,
 ⟨⟨(some 16), .mov (.t 5), (some (14, true))⟩, 4, [], false⟩,
 ⟨⟨(some 17), .bin .sub (.t 16) (.k (.int .i64 1)), (some (14, true))⟩, 5, [], false⟩,
 ⟨⟨(some 18), .idx 3 (.t 15) (.t 17), (some (14, true))⟩, 6, [], false⟩,
 ⟨⟨(some 19), .fld 1 (.t 18), (some (14, true))⟩, 7, [], false⟩,
 ⟨⟨(some 20), .load 1 false (.t 19), (some (14, true))⟩, 8, [], false⟩,
 ⟨⟨(some 21), .bin .add (.t 20) (.k (.int .i64 1)), (some (14, true))⟩, 9, [], false⟩,
 ⟨⟨(some 22), .fld 0 (.t 3), (some (14, true))⟩, 10, [], false⟩,
 ⟨⟨(some 23), .load 1 false (.t 22), (some (14, true))⟩, 11, [], false⟩,
 ⟨⟨(some 24), .bin .eql (.t 21) (.t 23), (some (14, true))⟩, 12, [], false⟩,
 ⟨⟨(some 25), .pick (.t 14) (.t 24) (.k (.bool false)), none⟩, 13, [], false⟩,
 ⟨⟨(some 26), .mov (.t 25), none⟩, 14, [], false⟩,
 ⟨⟨(some 27), .mov (.t 0), (some (26, true))⟩, 15, [], false⟩,
 ⟨⟨(some 28), .mov (.t 5), (some (26, true))⟩, 16, [], false⟩,
 ⟨⟨(some 29), .bin .sub (.t 28) (.k (.int .i64 1)), (some (26, true))⟩, 17, [], false⟩,
 ⟨⟨(some 30), .idx 3 (.t 27) (.t 29), (some (26, true))⟩, 18, [], false⟩,
 ⟨⟨(some 31), .fld 2 (.t 30), (some (26, true))⟩, 19, [], false⟩,
 ⟨⟨(some 32), .load 1 false (.t 31), (some (26, true))⟩, 20, [], false⟩,
 ⟨⟨(some 33), .fld 2 (.t 3), (some (26, true))⟩, 21, [], false⟩,
 ⟨⟨(some 34), .load 1 false (.t 33), (some (26, true))⟩, 22, [], false⟩,
 ⟨⟨(some 35), .bin .eql (.t 32) (.t 34), (some (26, true))⟩, 23, [], false⟩,
 ⟨⟨(some 36), .pick (.t 26) (.t 35) (.k (.bool false)), none⟩, 24, [], false⟩])
 (.cond (.t 36)
 (.seq
 (.reg [
 ⟨(some 37), .mov (.t 0), none⟩,
 ⟨(some 38), .mov (.t 5), none⟩,
 ⟨(some 39), .bin .sub (.t 38) (.k (.int .i64 1)), none⟩,
 ⟨(some 40), .fld 1 (.t 3), none⟩,
 ⟨(some 41), .load 1 false (.t 40), none⟩,
 ⟨(some 42), .idx 3 (.t 37) (.t 39), none⟩,
 ⟨(some 43), .fld 1 (.t 42), none⟩,
 ⟨none, .store 1 (.t 43) (.t 41), none⟩])
 (.seq
 (.reg [
 ⟨(some 44), .mov (.t 0), none⟩,
 ⟨(some 4), .mov (.t 44), none⟩])
 .ret))
 .skip)))
 (.seq
 (.reg [
 ⟨(some 45), .mov (.t 0), none⟩,
 ⟨(some 46), .load 3 true (.t 3), none⟩,
 ⟨(some 47), .lits 3 125 [(.t 46)], none⟩,
 ⟨(some 48), .app 3 24 125 (.t 45) (.t 47), none⟩,
 ⟨(some 4), .mov (.t 48), none⟩])
 .ret))))
theorem a127 : Go.Proofs.Try.f127.body.bind (comp Go.Proofs.Try.prog) = some A127 := by kernel_rfl
theorem r127 : compRVs Go.Proofs.Try.prog Go.Proofs.Try.f127.results.toList = some [.tmp 4] := by kernel_rfl
theorem n127 : (Go.Proofs.Try.f127.name == "runtime.NumGoroutine") = false := by decide +kernel
def E127 : Nat × ACode × Nat × List RV := (127, A127, 49, [.tmp 4])
theorem e127 : EntryOk Go.Proofs.Try.prog E127 := ⟨Go.Proofs.Try.f127, Go.Proofs.Try.func127, n127, a127, Go.Proofs.Try.ntmps127, r127⟩
/-! reedpen/cover.triples -/
def A128 : ACode :=
 (.seq
 (.reg [
 ⟨(some 4), .mov (.k (.vec true [])), none⟩,
 ⟨(some 5), .mov (.k (.bool false)), none⟩])
 (.seq
 (.reg [
 ⟨(some 15), .mov (.t 0), none⟩,
 ⟨(some 16), .mov (.t 1), none⟩,
 ⟨(some 17), .bin .add (.t 16) (.k (.int .i64 2)), none⟩,
 ⟨(some 18), .call 72 [(.t 15), (.t 17)], none⟩,
 ⟨(some 14), .mov (.t 18), none⟩,
 ⟨(some 19), .ext 0 (.t 14), none⟩,
 ⟨(some 20), .ext 1 (.t 14), none⟩,
 ⟨(some 6), .mov (.t 19), none⟩,
 ⟨(some 7), .mov (.t 20), none⟩])
 (.seq
 (.reg [
 ⟨(some 22), .mov (.t 0), none⟩,
 ⟨(some 23), .mov (.t 1), none⟩,
 ⟨(some 24), .bin .add (.t 23) (.k (.int .i64 4)), none⟩,
 ⟨(some 25), .mov (.t 6), none⟩,
 ⟨(some 26), .bin .mul (.k (.int .i64 3)) (.t 25), none⟩,
 ⟨(some 27), .call 101 [(.t 22), (.t 24), (.t 26), (.k (.int .i64 2))], none⟩,
 ⟨(some 21), .mov (.t 27), none⟩,
 ⟨(some 28), .ext 0 (.t 21), none⟩,
 ⟨(some 29), .ext 1 (.t 21), none⟩,
 ⟨(some 8), .mov (.t 28), none⟩,
 ⟨(some 9), .mov (.t 29), none⟩])
 (.seq
 (.seq
 (.reg [
 ⟨(some 30), .mov (.t 7), none⟩,
 ⟨(some 31), .un .not (.t 30), none⟩,
 ⟨(some 32), .mov (.t 31), none⟩,
 ⟨(some 33), .mov (.t 9), (some (32, false))⟩,
 ⟨(some 34), .un .not (.t 33), (some (32, false))⟩,
 ⟨(some 35), .pick (.t 32) (.k (.bool true)) (.t 34), none⟩])
 (.cond (.t 35)
 (.seq
 (.reg [
 ⟨(some 4), .mov (.k (.vec true [])), none⟩,
 ⟨(some 5), .mov (.k (.bool false)), none⟩])
 .ret)
 .skip))
 (.seq
 (.reg [
 ⟨(some 10), .mov (.k (.vec true [])), none⟩])
 (.seq
 (.reg [
 ⟨(some 11), .mov (.k (.int .i64 (-1))), none⟩])
 (.seq
 (.seq
 (.reg [
 ⟨(some 12), .mov (.k (.int .i64 0)), none⟩])
 (.block 0
 (.loop
 (.seq
 (.seq
 (.reg [
 ⟨(some 36), .mov (.t 12), none⟩,
 ⟨(some 37), .mov (.t 8), none⟩,
 ⟨(some 38), .len false (.t 37), none⟩,
 ⟨(some 39), .bin .lss (.t 36) (.t 38), none⟩])
 (.cond (.t 39)
 .skip
 (.exit 0)))
 (.seq
 (.block 1
 (.seq
 (.regd [
 ⟨⟨(some 42), .mov (.t 8), none⟩, 0, [], false⟩,
 ⟨⟨(some 43), .mov (.t 12), none⟩, 1, [], false⟩,
 ⟨⟨(some 44), .idx 1 (.t 42) (.t 43), none⟩, 2, [], true⟩,
 ⟨⟨(some 45), .load 1 false (.t 44), none⟩, 3, [], true⟩,
 ⟨⟨(some 46), .mov (.t 8), none⟩, 4, [], false⟩,
 ⟨⟨(some 47), .mov (.t 12), none⟩, 5, [], false⟩,
 ⟨⟨(some 48), .bin .add (.t 47) (.k (.int .i64 1)), none⟩, 6, [], false⟩,
 ⟨⟨(some 49), .idx 1 (.t 46) (.t 48), none⟩, 7, [], true⟩,
 ⟨⟨(some 50), .load 1 false (.t 49), none⟩, 8, [], true⟩,
 ⟨⟨(some 51), .mov (.t 8), none⟩, 9, [], false⟩,
 ⟨⟨(some 52), .mov (.t 12), none⟩, 10, [], false⟩,
 ⟨⟨(some 53), .bin .add (.t 52) (.k (.int .i64 2)), none⟩, 11, [], false⟩,
 ⟨⟨(some 54), .idx 1 (.t 51) (.t 53), none⟩, 12, [], true⟩,
 ⟨⟨(some 55), .load 1 false (.t 54), none⟩, 13, [], true⟩,
 ⟨⟨(some 56), .build [(.int .i64 0), (.int .i64 0), (.int .i64 0)] [(0, 1, (.t 45)), (1, 1, (.t 50)), (2, 1, (.t 55))], none⟩, 14, [], false⟩,
 ⟨⟨(some 13), .new [(.int .i64 0), (.int .i64 0), (.int .i64 0)] 173, none⟩, 15, [], false⟩,
 ⟨⟨none, .store 3 (.t 13) (.t 56), none⟩, 16, [15, 14, 3, 2, 0, 1, 8, 7, 4, 6, 5, 13, 12, 9, 11, 10], false⟩])
 (.seq
 (.seq
 (.reg [
 ⟨(some 57), .idxa 1 3 (.t 13) (.k (.int .i64 0)), none⟩,
 ⟨(some 58), .load 1 false (.t 57), none⟩,
 ⟨(some 59), .mov (.t 11), none⟩,
 ⟨(some 60), .bin .leq (.t 58) (.t 59), none⟩,
 ⟨(some 61), .mov (.t 60), none⟩,
 ⟨(some 62), .idxa 1 3 (.t 13) (.k (.int .i64 1)), (some (61, false))⟩,
 ⟨(some 63), .load 1 false (.t 62), (some (61, false))⟩,
 ⟨(some 64), .idxa 1 3 (.t 13) (.k (.int .i64 0)), (some (61, false))⟩,
 ⟨(some 65), .load 1 false (.t 64), (some (61, false))⟩,
 ⟨(some 66), .bin .lss (.t 63) (.t 65), (some (61, false))⟩,
 ⟨(some 67), .pick (.t 61) (.k (.bool true)) (.t 66), none⟩])
 (.cond (.t 67)
 (.seq
 (.reg [
 ⟨(some 4), .mov (.k (.vec true [])), none⟩,
 ⟨(some 5), .mov (.k (.bool false)), none⟩])
 .ret)
 .skip))
 (.seq
 (.reg [
 ⟨(some 68), .idxa 1 3 (.t 13) (.k (.int .i64 1)), none⟩,
 ⟨(some 69), .load 1 false (.t 68), none⟩,
 ⟨(some 11), .mov (.t 69), none⟩])
 (.reg [
 ⟨(some 70), .mov (.t 10), none⟩,
 ⟨(some 71), .load 3 true (.t 13), none⟩,
 ⟨(some 72), .lits 3 173 [(.t 71)], none⟩,
 ⟨(some 73), .app 3 24 173 (.t 70) (.t 72), none⟩,
 ⟨(some 10), .mov (.t 73), none⟩])))))
 (.reg [
 ⟨(some 40), .mov (.t 12), none⟩,
 ⟨(some 41), .bin .add (.t 40) (.k (.int .i64 3)), none⟩,
 ⟨(some 12), .mov (.t 41), none⟩]))))))
 (.seq
 (.reg [
 ⟨(some 74), .mov (.t 10), none⟩,
 ⟨(some 4), .mov (.t 74), none⟩,
 ⟨(some 5), .mov (.k (.bool true)), none⟩])
 .ret))))))))
theorem a128 : Go.Proofs.Try.f128.body.bind (comp Go.Proofs.Try.prog) = some A128 := by kernel_rfl
theorem r128 : compRVs Go.Proofs.Try.prog Go.Proofs.Try.f128.results.toList = some [.tmp 4, .tmp 5] := by kernel_rfl
theorem n128 : (Go.Proofs.Try.f128.name == "runtime.NumGoroutine") = false := by decide +kernel
def E128 : Nat × ACode × Nat × List RV := (128, A128, 75, [.tmp 4, .tmp 5])
theorem e128 : EntryOk Go.Proofs.Try.prog E128 := ⟨Go.Proofs.Try.f128, Go.Proofs.Try.func128, n128, a128, Go.Proofs.Try.ntmps128, r128⟩
/-! reedpen/cover.joined -/
def A130 : ACode :=
 (.seq
 (.reg [
 ⟨(some 3), .box (.t 1) 87, none⟩,
 ⟨(some 4), .mov (.k (.vec true [])), none⟩])
 (.seq
 (.seq
 (.reg [
 ⟨(some 6), .mov (.t 0), none⟩,
 ⟨(some 7), .len false (.t 6), none⟩,
 ⟨(some 5), .mov (.t 7), none⟩])
 (.seq
 (.regd [
 ⟨⟨(some 8), .mov (.t 5), none⟩, 0, [], false⟩,
 ⟨⟨(some 9), .bin .gtr (.t 8) (.k (.int .i64 0)), none⟩, 1, [], false⟩,
 ⟨⟨(some 10), .mov (.t 9), none⟩, 2, [], false⟩,
 ⟨⟨(some 11), .mov (.t 0), (some (10, true))⟩, 3, [], false⟩,
 ⟨⟨(some 12), .mov (.t 5), (some (10, true))⟩, 4, [], false⟩,
 ⟨⟨(some 13), .bin .sub (.t 12) (.k (.int .i64 1)), (some (10, true))⟩, 5, [], false⟩,
 ⟨⟨(some 14), .idx 2 (.t 11) (.t 13), (some (10, true))⟩, 6, [], false⟩,
 ⟨⟨(some 15), .fld 1 (.t 14), (some (10, true))⟩, 7, [], false⟩,
 ⟨⟨(some 16), .load 1 false (.t 15), (some (10, true))⟩, 8, [], false⟩,
 ⟨⟨(some 17), .bin .add (.t 16) (.k (.int .i64 1)), (some (10, true))⟩, 9, [], false⟩,
 ⟨⟨(some 18), .fld 0 (.t 3), (some (10, true))⟩, 10, [], false⟩,
 ⟨⟨(some 19), .load 1 false (.t 18), (some (10, true))⟩, 11, [], false⟩,
 ⟨⟨(some 20), .bin .eql (.t 17) (.t 19), (some (10, true))⟩, 12, [], false⟩,
 ⟨⟨(some 21), .pick (.t 10) (.t 20) (.k (.bool false)), none⟩, 13, [], false⟩])
 (.cond (.t 21)
 (.seq
 (.reg [
 ⟨(some 22), .mov (.t 0), none⟩,
 ⟨(some 23), .mov (.t 5), none⟩,
 ⟨(some 24), .bin .sub (.t 23) (.k (.int .i64 1)), none⟩,
 ⟨(some 25), .fld 1 (.t 3), none⟩,
 ⟨(some 26), .load 1 false (.t 25), none⟩,
 ⟨(some 27), .idx 2 (.t 22) (.t 24), none⟩,
 ⟨(some 28), .fld 1 (.t 27), none⟩,
 ⟨none, .store 1 (.t 28) (.t 26), none⟩])
 (.seq
 (.reg [
 ⟨(some 29), .mov (.t 0), none⟩,
 ⟨(some 4), .mov (.t 29), none⟩])
 .ret))
 .skip)))
 (.seq
 (.reg [
 ⟨(some 30), .mov (.t 0), none⟩,
 ⟨(some 31), .load 2 true (.t 3), none⟩,
 ⟨(some 32), .lits 2 87 [(.t 31)], none⟩,
 ⟨(some 33), .app 2 16 87 (.t 30) (.t 32), none⟩,
 ⟨(some 4), .mov (.t 33), none⟩])
 .ret)))
theorem a130 : Go.Proofs.Try.f130.body.bind (comp Go.Proofs.Try.prog) = some A130 := by kernel_rfl
theorem r130 : compRVs Go.Proofs.Try.prog Go.Proofs.Try.f130.results.toList = some [.tmp 4] := by kernel_rfl
theorem n130 : (Go.Proofs.Try.f130.name == "runtime.NumGoroutine") = false := by decide +kernel
def E130 : Nat × ACode × Nat × List RV := (130, A130, 34, [.tmp 4])
theorem e130 : EntryOk Go.Proofs.Try.prog E130 := ⟨Go.Proofs.Try.f130, Go.Proofs.Try.func130, n130, a130, Go.Proofs.Try.ntmps130, r130⟩
/-! reedpen/cover.Both$1 -/
def A131 : ACode :=
 (.seq
 (.reg [
 ⟨(some 5), .mov (.t 0), none⟩,
 ⟨(some 6), .mov (.t 1), none⟩,
 ⟨(some 7), .bin .leq (.t 5) (.t 6), none⟩])
 (.cond (.t 7)
 (.reg [
 ⟨(some 8), .load 1 false (.t 2), none⟩,
 ⟨(some 9), .mov (.t 0), none⟩,
 ⟨(some 10), .mov (.t 1), none⟩,
 ⟨(some 11), .build [(.int .i64 0), (.int .i64 0)] [(0, 1, (.t 9)), (1, 1, (.t 10))], none⟩,
 ⟨(some 12), .call 130 [(.t 8), (.t 11)], none⟩,
 ⟨none, .store 1 (.t 2) (.t 12), none⟩])
 .skip))
theorem a131 : Go.Proofs.Try.f131.body.bind (comp Go.Proofs.Try.prog) = some A131 := by kernel_rfl
theorem r131 : compRVs Go.Proofs.Try.prog Go.Proofs.Try.f131.results.toList = some [] := by kernel_rfl
theorem n131 : (Go.Proofs.Try.f131.name == "runtime.NumGoroutine") = false := by decide +kernel
def E131 : Nat × ACode × Nat × List RV := (131, A131, 13, [])
theorem e131 : EntryOk Go.Proofs.Try.prog E131 := ⟨Go.Proofs.Try.f131, Go.Proofs.Try.func131, n131, a131, Go.Proofs.Try.ntmps131, r131⟩
end Go.Proofs.Ytfacmhngbaboiaa.AI
