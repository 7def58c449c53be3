/- Functions' code by sight: written by a program (gen.py) out of the translation; Lean checks it against the translation. -/
import Derived.Test.YtakplhfiohjcmaaA20
import Derived.Test.YtakplhfiohjcmaaProg
namespace Go.Proofs.Ytakplhfiohjcmaa.AI
/-! reedpen/reedpenlaw11.ContextBehind -/
def A12 : ACode :=
 (.seq
 (.reg [
 ⟨(some 6), .mov (.k (.bool false)), none⟩])
 (.seq
 (.seq
 (.reg [
 ⟨(some 16), .call 36 [], none⟩,
 ⟨(some 17), .un .not (.t 16), none⟩])
 (.cond (.t 17)
 (.seq
 (.reg [
 ⟨(some 6), .mov (.k (.bool false)), none⟩])
 .ret)
 .skip))
 (.seq
 (.seq
 (.reg [
 ⟨(some 18), .mov (.t 0), none⟩,
 ⟨(some 19), .len false (.t 18), none⟩,
 ⟨(some 20), .bin .gtr (.t 19) (.k (.int .i64 1000)), none⟩,
 ⟨(some 21), .mov (.t 20), none⟩,
 ⟨(some 22), .mov (.t 1), (some (21, false))⟩,
 ⟨(some 23), .len false (.t 22), (some (21, false))⟩,
 ⟨(some 24), .bin .gtr (.t 23) (.k (.int .i64 300)), (some (21, false))⟩,
 ⟨(some 25), .pick (.t 21) (.k (.bool true)) (.t 24), none⟩])
 (.cond (.t 25)
 (.seq
 (.reg [
 ⟨(some 6), .mov (.k (.bool true)), none⟩])
 .ret)
 .skip))
 (.seq
 (.reg [
 ⟨(some 7), .mov (.k (.vec true [])), none⟩])
 (.seq
 (.reg [
 ⟨(some 26), .mov (.t 7), none⟩,
 ⟨(some 27), .mov (.t 0), none⟩,
 ⟨(some 28), .app 1 1 5 (.t 26) (.t 27), none⟩,
 ⟨(some 7), .mov (.t 28), none⟩])
 (.seq
 (.reg [
 ⟨(some 29), .mov (.t 7), none⟩,
 ⟨(some 30), .mov (.t 1), none⟩,
 ⟨(some 31), .app 1 1 5 (.t 29) (.t 30), none⟩,
 ⟨(some 7), .mov (.t 31), none⟩])
 (.seq
 (.seq
 (.reg [
 ⟨(some 32), .mov (.t 2), none⟩])
 (.cond (.t 32)
 (.seq
 (.reg [
 ⟨(some 34), .mov (.t 0), none⟩,
 ⟨(some 35), .call 40 [(.t 34), (.k (.int .i64 0))], none⟩,
 ⟨(some 33), .mov (.t 35), none⟩,
 ⟨(some 36), .ext 0 (.t 33), none⟩,
 ⟨(some 37), .ext 1 (.t 33), none⟩,
 ⟨(some 8), .mov (.t 36), none⟩,
 ⟨(some 9), .mov (.t 37), none⟩])
 (.seq
 (.reg [
 ⟨(some 39), .mov (.t 7), none⟩,
 ⟨(some 40), .call 40 [(.t 39), (.k (.int .i64 0))], none⟩,
 ⟨(some 38), .mov (.t 40), none⟩,
 ⟨(some 41), .ext 0 (.t 38), none⟩,
 ⟨(some 42), .ext 1 (.t 38), none⟩,
 ⟨(some 10), .mov (.t 41), none⟩,
 ⟨(some 11), .mov (.t 42), none⟩])
 (.seq
 (.reg [
 ⟨(some 43), .mov (.t 9), none⟩,
 ⟨(some 44), .un .not (.t 43), none⟩,
 ⟨(some 45), .mov (.t 44), none⟩,
 ⟨(some 46), .mov (.t 11), (some (45, false))⟩,
 ⟨(some 47), .mov (.t 46), (some (45, false))⟩,
 ⟨(some 48), .mov (.t 8), (some (47, true))⟩,
 ⟨(some 49), .mov (.t 10), (some (47, true))⟩,
 ⟨(some 50), .call 39 [(.t 48), (.t 49)], (some (47, true))⟩,
 ⟨(some 51), .pick (.t 47) (.t 50) (.k (.bool false)), (some (45, false))⟩,
 ⟨(some 52), .pick (.t 45) (.k (.bool true)) (.t 51), none⟩,
 ⟨(some 6), .mov (.t 52), none⟩])
 .ret)))
 .skip))
 (.seq
 (.reg [
 ⟨(some 54), .mov (.t 0), none⟩,
 ⟨(some 55), .call 37 [(.t 54), (.k (.int .i64 0))], none⟩,
 ⟨(some 53), .mov (.t 55), none⟩,
 ⟨(some 56), .ext 0 (.t 53), none⟩,
 ⟨(some 57), .ext 1 (.t 53), none⟩,
 ⟨(some 12), .mov (.t 56), none⟩,
 ⟨(some 13), .mov (.t 57), none⟩])
 (.seq
 (.reg [
 ⟨(some 59), .mov (.t 7), none⟩,
 ⟨(some 60), .call 37 [(.t 59), (.k (.int .i64 0))], none⟩,
 ⟨(some 58), .mov (.t 60), none⟩,
 ⟨(some 61), .ext 0 (.t 58), none⟩,
 ⟨(some 62), .ext 1 (.t 58), none⟩,
 ⟨(some 14), .mov (.t 61), none⟩,
 ⟨(some 15), .mov (.t 62), none⟩])
 (.seq
 (.reg [
 ⟨(some 63), .mov (.t 13), none⟩,
 ⟨(some 64), .un .not (.t 63), none⟩,
 ⟨(some 65), .mov (.t 64), none⟩,
 ⟨(some 66), .mov (.t 15), (some (65, false))⟩,
 ⟨(some 67), .mov (.t 66), (some (65, false))⟩,
 ⟨(some 68), .mov (.t 12), (some (67, true))⟩,
 ⟨(some 69), .mov (.t 14), (some (67, true))⟩,
 ⟨(some 70), .call 39 [(.t 68), (.t 69)], (some (67, true))⟩,
 ⟨(some 71), .pick (.t 67) (.t 70) (.k (.bool false)), (some (65, false))⟩,
 ⟨(some 72), .pick (.t 65) (.k (.bool true)) (.t 71), none⟩,
 ⟨(some 6), .mov (.t 72), none⟩])
 .ret))))))))))
theorem a12 : Go.Proofs.Try.f12.body.bind (comp Go.Proofs.Try.prog) = some A12 := by kernel_rfl
theorem r12 : compRVs Go.Proofs.Try.prog Go.Proofs.Try.f12.results.toList = some [.tmp 6] := by kernel_rfl
theorem n12 : (Go.Proofs.Try.f12.name == "runtime.NumGoroutine") = false := by decide +kernel
def E12 : Nat × ACode × Nat × List RV := (12, A12, 73, [.tmp 6])
theorem e12 : EntryOk Go.Proofs.Try.prog E12 := ⟨Go.Proofs.Try.f12, Go.Proofs.Try.func12, n12, a12, Go.Proofs.Try.ntmps12, r12⟩
/-! reedpen/cover.Cover -/
def A18 : ACode :=
 (.seq
 (.reg [
 ⟨(some 4), .mov (.k (.vec true [])), none⟩,
 ⟨(some 5), .mov (.k (.bool false)), none⟩])
 (.seq
 (.seq
 (.reg [
 ⟨(some 6), .mov (.t 0), none⟩,
 ⟨(some 7), .mov (.t 1), none⟩,
 ⟨(some 8), .call 53 [(.t 6), (.t 7)], none⟩])
 (.block 0
 (.seq
 (.reg [
 ⟨(some 10), .bin .eql (.t 8) (.k (.int .i64 1)), none⟩,
 ⟨(some 9), .mov (.t 10), none⟩])
 (.cond (.t 9)
 (.seq
 (.reg [
 ⟨(some 11), .mov (.t 0), none⟩,
 ⟨(some 12), .mov (.t 1), none⟩,
 ⟨(some 13), .call 54 [(.t 11), (.t 12)], none⟩,
 ⟨(some 14), .ext 0 (.t 13), none⟩,
 ⟨(some 15), .ext 1 (.t 13), none⟩,
 ⟨(some 4), .mov (.t 14), none⟩,
 ⟨(some 5), .mov (.t 15), none⟩])
 .ret)
 (.seq
 (.reg [
 ⟨(some 17), .bin .eql (.t 8) (.k (.int .i64 2)), none⟩,
 ⟨(some 16), .mov (.t 17), none⟩])
 (.cond (.t 16)
 (.seq
 (.reg [
 ⟨(some 18), .mov (.t 0), none⟩,
 ⟨(some 19), .mov (.t 1), none⟩,
 ⟨(some 20), .call 55 [(.t 18), (.t 19)], none⟩,
 ⟨(some 21), .ext 0 (.t 20), none⟩,
 ⟨(some 22), .ext 1 (.t 20), none⟩,
 ⟨(some 4), .mov (.t 21), none⟩,
 ⟨(some 5), .mov (.t 22), none⟩])
 .ret)
 .skip))))))
 (.seq
 (.reg [
 ⟨(some 4), .mov (.k (.vec true [])), none⟩,
 ⟨(some 5), .mov (.k (.bool false)), none⟩])
 .ret)))
theorem a18 : Go.Proofs.Try.f18.body.bind (comp Go.Proofs.Try.prog) = some A18 := by kernel_rfl
theorem r18 : compRVs Go.Proofs.Try.prog Go.Proofs.Try.f18.results.toList = some [.tmp 4, .tmp 5] := by kernel_rfl
theorem n18 : (Go.Proofs.Try.f18.name == "runtime.NumGoroutine") = false := by decide +kernel
def E18 : Nat × ACode × Nat × List RV := (18, A18, 23, [.tmp 4, .tmp 5])
theorem e18 : EntryOk Go.Proofs.Try.prog E18 := ⟨Go.Proofs.Try.f18, Go.Proofs.Try.func18, n18, a18, Go.Proofs.Try.ntmps18, r18⟩
/-! reedpen/cover.Classes -/
def A20 : ACode :=
 (.seq
 (.reg [
 ⟨(some 4), .mov (.k (.vec true [])), none⟩,
 ⟨(some 5), .mov (.k (.bool false)), none⟩])
 (.scope
 (.seq
 (.reg [
 ⟨(some 6), .mov (.k (.vec true [])), none⟩])
 (.seq
 (.reg [
 ⟨(some 7), .mov (.k (.bool false)), none⟩])
 (.seq
 (.label 0)
 (.seq
 (.seq
 (.reg [
 ⟨(some 20), .mov (.t 0), none⟩,
 ⟨(some 21), .mov (.t 1), none⟩,
 ⟨(some 22), .call 53 [(.t 20), (.t 21)], none⟩])
 (.block 0
 (.seq
 (.reg [
 ⟨(some 24), .bin .eql (.t 22) (.k (.int .i64 1)), none⟩,
 ⟨(some 23), .mov (.t 24), none⟩])
 (.cond (.t 23)
 (.seq
 (.reg [
 ⟨(some 26), .mov (.t 0), none⟩,
 ⟨(some 27), .mov (.t 1), none⟩,
 ⟨(some 28), .bin .add (.t 27) (.k (.int .i64 2)), none⟩,
 ⟨(some 29), .call 57 [(.t 26), (.t 28)], none⟩,
 ⟨(some 25), .mov (.t 29), none⟩,
 ⟨(some 30), .ext 0 (.t 25), none⟩,
 ⟨(some 31), .ext 1 (.t 25), none⟩,
 ⟨(some 8), .mov (.t 30), none⟩,
 ⟨(some 9), .mov (.t 31), none⟩])
 (.seq
 (.reg [
 ⟨(some 33), .mov (.t 0), none⟩,
 ⟨(some 34), .mov (.t 1), none⟩,
 ⟨(some 35), .bin .add (.t 34) (.k (.int .i64 4)), none⟩,
 ⟨(some 36), .call 57 [(.t 33), (.t 35)], none⟩,
 ⟨(some 32), .mov (.t 36), none⟩,
 ⟨(some 37), .ext 0 (.t 32), none⟩,
 ⟨(some 38), .ext 1 (.t 32), none⟩,
 ⟨(some 10), .mov (.t 37), none⟩,
 ⟨(some 11), .mov (.t 38), none⟩])
 (.seq
 (.reg [
 ⟨(some 40), .mov (.t 0), none⟩,
 ⟨(some 41), .mov (.t 1), none⟩,
 ⟨(some 42), .bin .add (.t 41) (.k (.int .i64 4)), none⟩,
 ⟨(some 43), .bin .add (.t 42) (.k (.int .i64 2)), none⟩,
 ⟨(some 44), .mov (.t 10), none⟩,
 ⟨(some 45), .call 58 [(.t 40), (.t 43), (.t 44), (.k (.int .i64 2))], none⟩,
 ⟨(some 39), .mov (.t 45), none⟩,
 ⟨(some 46), .ext 0 (.t 39), none⟩,
 ⟨(some 47), .ext 1 (.t 39), none⟩,
 ⟨(some 12), .mov (.t 46), none⟩,
 ⟨(some 13), .mov (.t 47), none⟩])
 (.seq
 (.seq
 (.reg [
 ⟨(some 48), .mov (.t 11), none⟩,
 ⟨(some 49), .un .not (.t 48), none⟩,
 ⟨(some 50), .mov (.t 49), none⟩,
 ⟨(some 51), .mov (.t 13), (some (50, false))⟩,
 ⟨(some 52), .un .not (.t 51), (some (50, false))⟩,
 ⟨(some 53), .pick (.t 50) (.k (.bool true)) (.t 52), none⟩,
 ⟨(some 54), .mov (.t 53), none⟩,
 ⟨(some 55), .mov (.t 8), (some (54, false))⟩,
 ⟨(some 56), .mov (.t 10), (some (54, false))⟩,
 ⟨(some 57), .bin .add (.t 55) (.t 56), (some (54, false))⟩,
 ⟨(some 58), .bin .gtr (.t 57) (.k (.int .i64 65536)), (some (54, false))⟩,
 ⟨(some 59), .pick (.t 54) (.k (.bool true)) (.t 58), none⟩])
 (.cond (.t 59)
 (.exit 0)
 .skip))
 (.seq
 (.seq
 (.reg [
 ⟨(some 60), .mov (.t 12), none⟩,
 ⟨(some 61), .len false (.t 60), none⟩,
 ⟨(some 62), .mov (.k (.int .i64 0)), none⟩])
 (.block 1
 (.loop
 (.seq
 (.reg [
 ⟨(some 63), .bin .lss (.t 62) (.t 61), none⟩])
 (.seq
 (.cond (.t 63)
 .skip
 (.exit 1))
 (.seq
 (.block 2
 (.seq
 (.reg [
 ⟨(some 64), .mov (.t 62), none⟩,
 ⟨(some 65), .idx 1 (.t 60) (.t 62), none⟩,
 ⟨(some 66), .load 1 false (.t 65), none⟩,
 ⟨(some 14), .mov (.t 64), none⟩,
 ⟨(some 15), .mov (.t 66), none⟩])
 (.reg [
 ⟨(some 67), .mov (.t 6), none⟩,
 ⟨(some 68), .mov (.t 8), none⟩,
 ⟨(some 69), .mov (.t 14), none⟩,
 ⟨(some 70), .bin .add (.t 68) (.t 69), none⟩,
 ⟨(some 71), .mov (.t 8), none⟩,
 ⟨(some 72), .mov (.t 14), none⟩,
 ⟨(some 73), .bin .add (.t 71) (.t 72), none⟩,
 ⟨(some 74), .mov (.t 15), none⟩,
 ⟨(some 75), .build [(.int .i64 0), (.int .i64 0), (.int .i64 0)] [(0, 1, (.t 70)), (1, 1, (.t 73)), (2, 1, (.t 74))], none⟩,
 ⟨(some 76), .call 59 [(.t 67), (.t 75)], none⟩,
 ⟨(some 6), .mov (.t 76), none⟩])))
 (.reg [
 ⟨(some 77), .bin .add (.t 62) (.k (.int .i64 1)), none⟩,
 ⟨(some 62), .mov (.t 77), none⟩])))))))
 (.reg [
 ⟨(some 7), .mov (.k (.bool true)), none⟩]))))))
 (.seq
 (.reg [
 ⟨(some 79), .bin .eql (.t 22) (.k (.int .i64 2)), none⟩,
 ⟨(some 78), .mov (.t 79), none⟩])
 (.cond (.t 78)
 (.seq
 (.reg [
 ⟨(some 81), .mov (.t 0), none⟩,
 ⟨(some 82), .mov (.t 1), none⟩,
 ⟨(some 83), .call 60 [(.t 81), (.t 82)], none⟩,
 ⟨(some 80), .mov (.t 83), none⟩,
 ⟨(some 84), .ext 0 (.t 80), none⟩,
 ⟨(some 85), .ext 1 (.t 80), none⟩,
 ⟨(some 16), .mov (.t 84), none⟩,
 ⟨(some 17), .mov (.t 85), none⟩])
 (.seq
 (.seq
 (.reg [
 ⟨(some 86), .mov (.t 16), none⟩,
 ⟨(some 87), .len false (.t 86), none⟩,
 ⟨(some 88), .mov (.k (.int .i64 0)), none⟩])
 (.block 3
 (.loop
 (.seq
 (.reg [
 ⟨(some 89), .bin .lss (.t 88) (.t 87), none⟩])
 (.seq
 (.cond (.t 89)
 .skip
 (.exit 3))
 (.seq
 (.block 4
 (.seq
 (.reg [
 ⟨(some 90), .idx 3 (.t 86) (.t 88), none⟩,
 ⟨(some 91), .load 3 true (.t 90), none⟩,
 ⟨(some 19), .new [(.int .i64 0), (.int .i64 0), (.int .i64 0)] 97, none⟩,
 ⟨none, .store 3 (.t 19) (.t 91), none⟩])
 (.reg [
 ⟨(some 92), .mov (.t 6), none⟩,
 ⟨(some 93), .idxa 1 3 (.t 19) (.k (.int .i64 0)), none⟩,
 ⟨(some 94), .load 1 false (.t 93), none⟩,
 ⟨(some 95), .idxa 1 3 (.t 19) (.k (.int .i64 1)), none⟩,
 ⟨(some 96), .load 1 false (.t 95), none⟩,
 ⟨(some 97), .idxa 1 3 (.t 19) (.k (.int .i64 2)), none⟩,
 ⟨(some 98), .load 1 false (.t 97), none⟩,
 ⟨(some 99), .build [(.int .i64 0), (.int .i64 0), (.int .i64 0)] [(0, 1, (.t 94)), (1, 1, (.t 96)), (2, 1, (.t 98))], none⟩,
 ⟨(some 100), .call 59 [(.t 92), (.t 99)], none⟩,
 ⟨(some 6), .mov (.t 100), none⟩])))
 (.reg [
 ⟨(some 101), .bin .add (.t 88) (.k (.int .i64 1)), none⟩,
 ⟨(some 88), .mov (.t 101), none⟩])))))))
 (.reg [
 ⟨(some 102), .mov (.t 17), none⟩,
 ⟨(some 7), .mov (.t 102), none⟩])))
 .skip))))))
 (.seq
 (.reg [
 ⟨(some 103), .mov (.t 6), none⟩,
 ⟨(some 104), .mov (.t 7), none⟩,
 ⟨(some 4), .mov (.t 103), none⟩,
 ⟨(some 5), .mov (.t 104), none⟩])
 .ret)))))))
theorem a20 : Go.Proofs.Try.f20.body.bind (comp Go.Proofs.Try.prog) = some A20 := by kernel_rfl
theorem r20 : compRVs Go.Proofs.Try.prog Go.Proofs.Try.f20.results.toList = some [.tmp 4, .tmp 5] := by kernel_rfl
theorem n20 : (Go.Proofs.Try.f20.name == "runtime.NumGoroutine") = false := by decide +kernel
def E20 : Nat × ACode × Nat × List RV := (20, A20, 105, [.tmp 4, .tmp 5])
theorem e20 : EntryOk Go.Proofs.Try.prog E20 := ⟨Go.Proofs.Try.f20, Go.Proofs.Try.func20, n20, a20, Go.Proofs.Try.ntmps20, r20⟩
/-! reedpen/reedpenref10.Same -/
def A22 : ACode :=
 (.seq
 (.reg [
 ⟨(some 4), .mov (.k (.bool false)), none⟩])
 (.seq
 (.seq
 (.reg [
 ⟨(some 6), .mov (.t 0), none⟩,
 ⟨(some 7), .len false (.t 6), none⟩,
 ⟨(some 8), .mov (.t 1), none⟩,
 ⟨(some 9), .len false (.t 8), none⟩,
 ⟨(some 10), .bin .neq (.t 7) (.t 9), none⟩])
 (.cond (.t 10)
 (.seq
 (.reg [
 ⟨(some 4), .mov (.k (.bool false)), none⟩])
 .ret)
 .skip))
 (.seq
 (.seq
 (.reg [
 ⟨(some 5), .mov (.k (.int .i64 0)), none⟩])
 (.block 0
 (.loop
 (.seq
 (.seq
 (.reg [
 ⟨(some 11), .mov (.t 5), none⟩,
 ⟨(some 12), .mov (.t 0), none⟩,
 ⟨(some 13), .len false (.t 12), none⟩,
 ⟨(some 14), .bin .lss (.t 11) (.t 13), none⟩])
 (.cond (.t 14)
 .skip
 (.exit 0)))
 (.seq
 (.block 1
 (.seq
 (.regd [
 ⟨⟨(some 17), .mov (.t 0), none⟩, 0, [], false⟩,
 ⟨⟨(some 18), .mov (.t 5), none⟩, 1, [], false⟩,
 ⟨⟨(some 19), .idx 2 (.t 17) (.t 18), none⟩, 2, [], false⟩,
 ⟨⟨(some 20), .load 2 true (.t 19), none⟩, 3, [], false⟩,
 ⟨⟨(some 21), .mov (.t 1), none⟩, 4, [], false⟩,
 ⟨⟨(some 22), .mov (.t 5), none⟩, 5, [], false⟩,
 ⟨⟨(some 23), .idx 2 (.t 21) (.t 22), none⟩, 6, [], false⟩,
 ⟨⟨(some 24), .load 2 true (.t 23), none⟩, 7, [], false⟩,
 ⟨⟨(some 25), .eqs true [0, 0] (.t 20) (.t 24), none⟩, 8, [], false⟩])
 (.cond (.t 25)
 (.seq
 (.reg [
 ⟨(some 4), .mov (.k (.bool false)), none⟩])
 .ret)
 .skip)))
 (.reg [
 ⟨(some 15), .mov (.t 5), none⟩,
 ⟨(some 16), .bin .add (.t 15) (.k (.int .i64 1)), none⟩,
 ⟨(some 5), .mov (.t 16), none⟩]))))))
 (.seq
 (.reg [
 ⟨(some 4), .mov (.k (.bool true)), none⟩])
 .ret))))
theorem a22 : Go.Proofs.Try.f22.body.bind (comp Go.Proofs.Try.prog) = some A22 := by kernel_rfl
theorem r22 : compRVs Go.Proofs.Try.prog Go.Proofs.Try.f22.results.toList = some [.tmp 4] := by kernel_rfl
theorem n22 : (Go.Proofs.Try.f22.name == "runtime.NumGoroutine") = false := by decide +kernel
def E22 : Nat × ACode × Nat × List RV := (22, A22, 26, [.tmp 4])
theorem e22 : EntryOk Go.Proofs.Try.prog E22 := ⟨Go.Proofs.Try.f22, Go.Proofs.Try.func22, n22, a22, Go.Proofs.Try.ntmps22, r22⟩
/-! reedpen/cover.Count -/
def A28 : ACode :=
 (.seq
 (.reg [
 ⟨(some 2), .mov (.k (.int .i64 0)), none⟩])
 (.seq
 (.reg [
 ⟨(some 3), .mov (.k (.int .i64 0)), none⟩])
 (.seq
 (.seq
 (.reg [
 ⟨(some 6), .mov (.t 0), none⟩,
 ⟨(some 7), .len false (.t 6), none⟩,
 ⟨(some 8), .mov (.k (.int .i64 0)), none⟩])
 (.block 0
 (.loop
 (.seq
 (.reg [
 ⟨(some 9), .bin .lss (.t 8) (.t 7), none⟩])
 (.seq
 (.cond (.t 9)
 .skip
 (.exit 0))
 (.seq
 (.block 1
 (.seq
 (.reg [
 ⟨(some 10), .idx 2 (.t 6) (.t 8), none⟩,
 ⟨(some 11), .load 2 true (.t 10), none⟩,
 ⟨(some 5), .new [(.int .i64 0), (.int .i64 0)] 38, none⟩,
 ⟨none, .store 2 (.t 5) (.t 11), none⟩])
 (.reg [
 ⟨(some 12), .mov (.t 3), none⟩,
 ⟨(some 13), .fld 1 (.t 5), none⟩,
 ⟨(some 14), .load 1 false (.t 13), none⟩,
 ⟨(some 15), .fld 0 (.t 5), none⟩,
 ⟨(some 16), .load 1 false (.t 15), none⟩,
 ⟨(some 17), .bin .sub (.t 14) (.t 16), none⟩,
 ⟨(some 18), .bin .add (.t 17) (.k (.int .i64 1)), none⟩,
 ⟨(some 19), .bin .add (.t 12) (.t 18), none⟩,
 ⟨(some 3), .mov (.t 19), none⟩])))
 (.reg [
 ⟨(some 20), .bin .add (.t 8) (.k (.int .i64 1)), none⟩,
 ⟨(some 8), .mov (.t 20), none⟩])))))))
 (.seq
 (.reg [
 ⟨(some 21), .mov (.t 3), none⟩,
 ⟨(some 2), .mov (.t 21), none⟩])
 .ret))))
theorem a28 : Go.Proofs.Try.f28.body.bind (comp Go.Proofs.Try.prog) = some A28 := by kernel_rfl
theorem r28 : compRVs Go.Proofs.Try.prog Go.Proofs.Try.f28.results.toList = some [.tmp 2] := by kernel_rfl
theorem n28 : (Go.Proofs.Try.f28.name == "runtime.NumGoroutine") = false := by decide +kernel
def E28 : Nat × ACode × Nat × List RV := (28, A28, 22, [.tmp 2])
theorem e28 : EntryOk Go.Proofs.Try.prog E28 := ⟨Go.Proofs.Try.f28, Go.Proofs.Try.func28, n28, a28, Go.Proofs.Try.ntmps28, r28⟩
/-! reedpen/cover.With -/
def A33 : ACode :=
 (.seq
 (.reg [
 ⟨(some 4), .new [(.vec true []), (.bool false)] 36, none⟩])
 (.seq
 (.reg [
 ⟨(some 8), .mov (.t 1), none⟩,
 ⟨(some 9), .bin .eql (.t 8) (.k (.int .i64 0)), none⟩,
 ⟨(some 10), .build [(.vec true []), (.bool false)] [(1, 1, (.t 9))], none⟩,
 ⟨(some 5), .new [(.vec true []), (.bool false)] 36, none⟩,
 ⟨none, .store 2 (.t 5) (.t 10), none⟩])
 (.seq
 (.seq
 (.reg [
 ⟨(some 11), .mov (.t 0), none⟩,
 ⟨(some 12), .len false (.t 11), none⟩,
 ⟨(some 13), .mov (.k (.int .i64 0)), none⟩])
 (.block 0
 (.loop
 (.seq
 (.reg [
 ⟨(some 14), .bin .lss (.t 13) (.t 12), none⟩])
 (.seq
 (.cond (.t 14)
 .skip
 (.exit 0))
 (.seq
 (.block 1
 (.seq
 (.reg [
 ⟨(some 15), .idx 3 (.t 11) (.t 13), none⟩,
 ⟨(some 16), .load 3 true (.t 15), none⟩,
 ⟨(some 7), .new [(.int .i64 0), (.int .i64 0), (.int .i64 0)] 48, none⟩,
 ⟨none, .store 3 (.t 7) (.t 16), none⟩])
 (.seq
 (.reg [
 ⟨(some 17), .mov (.t 1), none⟩,
 ⟨(some 18), .bin .eql (.t 17) (.k (.int .i64 0)), none⟩,
 ⟨(some 19), .mov (.t 18), none⟩,
 ⟨(some 20), .fld 2 (.t 7), (some (19, false))⟩,
 ⟨(some 21), .load 1 false (.t 20), (some (19, false))⟩,
 ⟨(some 22), .mov (.t 1), (some (19, false))⟩,
 ⟨(some 23), .bin .eql (.t 21) (.t 22), (some (19, false))⟩,
 ⟨(some 24), .pick (.t 19) (.k (.bool true)) (.t 23), none⟩])
 (.cond (.t 24)
 (.reg [
 ⟨(some 25), .fld 0 (.t 5), none⟩,
 ⟨(some 26), .load 1 false (.t 25), none⟩,
 ⟨(some 27), .fld 0 (.t 7), none⟩,
 ⟨(some 28), .load 1 false (.t 27), none⟩,
 ⟨(some 29), .fld 1 (.t 7), none⟩,
 ⟨(some 30), .load 1 false (.t 29), none⟩,
 ⟨(some 31), .build [(.int .i64 0), (.int .i64 0)] [(0, 1, (.t 28)), (1, 1, (.t 30))], none⟩,
 ⟨(some 32), .call 61 [(.t 26), (.t 31)], none⟩,
 ⟨(some 33), .fld 0 (.t 5), none⟩,
 ⟨none, .store 1 (.t 33) (.t 32), none⟩])
 .skip))))
 (.reg [
 ⟨(some 34), .bin .add (.t 13) (.k (.int .i64 1)), none⟩,
 ⟨(some 13), .mov (.t 34), none⟩])))))))
 (.seq
 (.reg [
 ⟨(some 35), .load 2 true (.t 5), none⟩,
 ⟨none, .store 2 (.t 4) (.t 35), none⟩])
 .ret))))
theorem a33 : Go.Proofs.Try.f33.body.bind (comp Go.Proofs.Try.prog) = some A33 := by kernel_rfl
theorem r33 : compRVs Go.Proofs.Try.prog Go.Proofs.Try.f33.results.toList = some [.cell 4 2 true] := by kernel_rfl
theorem n33 : (Go.Proofs.Try.f33.name == "runtime.NumGoroutine") = false := by decide +kernel
def E33 : Nat × ACode × Nat × List RV := (33, A33, 36, [.cell 4 2 true])
theorem e33 : EntryOk Go.Proofs.Try.prog E33 := ⟨Go.Proofs.Try.f33, Go.Proofs.Try.func33, n33, a33, Go.Proofs.Try.ntmps33, r33⟩
/-! reedpen/cover.Both -/
def A34 : ACode :=
 (.seq
 (.reg [
 ⟨(some 3), .box (.t 1) 36, none⟩,
 ⟨(some 4), .mov (.k (.vec true [])), none⟩])
 (.seq
 (.reg [
 ⟨(some 5), .new [(.vec true [])] 24, none⟩])
 (.seq
 (.reg [
 ⟨(some 12), .mkfn (.func 62) [] [(.t 5)], none⟩,
 ⟨(some 6), .mov (.t 12), none⟩])
 (.seq
 (.seq
 (.reg [
 ⟨(some 13), .mov (.t 0), none⟩,
 ⟨(some 14), .len false (.t 13), none⟩,
 ⟨(some 15), .mov (.k (.int .i64 0)), none⟩])
 (.block 0
 (.loop
 (.seq
 (.reg [
 ⟨(some 16), .bin .lss (.t 15) (.t 14), none⟩])
 (.seq
 (.cond (.t 16)
 .skip
 (.exit 0))
 (.seq
 (.block 1
 (.seq
 (.reg [
 ⟨(some 17), .idx 2 (.t 13) (.t 15), none⟩,
 ⟨(some 18), .load 2 true (.t 17), none⟩,
 ⟨(some 8), .new [(.int .i64 0), (.int .i64 0)] 38, none⟩,
 ⟨none, .store 2 (.t 8) (.t 18), none⟩])
 (.seq
 (.reg [
 ⟨(some 19), .fld 0 (.t 8), none⟩,
 ⟨(some 20), .load 1 false (.t 19), none⟩,
 ⟨(some 9), .mov (.t 20), none⟩])
 (.seq
 (.seq
 (.reg [
 ⟨(some 21), .fld 0 (.t 3), none⟩,
 ⟨(some 22), .load 1 false (.t 21), none⟩,
 ⟨(some 23), .len false (.t 22), none⟩,
 ⟨(some 24), .mov (.k (.int .i64 0)), none⟩])
 (.block 2
 (.loop
 (.seq
 (.reg [
 ⟨(some 25), .bin .lss (.t 24) (.t 23), none⟩])
 (.seq
 (.cond (.t 25)
 .skip
 (.exit 2))
 (.seq
 (.block 3
 (.seq
 (.reg [
 ⟨(some 26), .idx 2 (.t 22) (.t 24), none⟩,
 ⟨(some 27), .load 2 true (.t 26), none⟩,
 ⟨(some 11), .new [(.int .i64 0), (.int .i64 0)] 38, none⟩,
 ⟨none, .store 2 (.t 11) (.t 27), none⟩])
 (.seq
 (.seq
 (.reg [
 ⟨(some 28), .fld 1 (.t 11), none⟩,
 ⟨(some 29), .load 1 false (.t 28), none⟩,
 ⟨(some 30), .fld 0 (.t 8), none⟩,
 ⟨(some 31), .load 1 false (.t 30), none⟩,
 ⟨(some 32), .bin .lss (.t 29) (.t 31), none⟩,
 ⟨(some 33), .mov (.t 32), none⟩,
 ⟨(some 34), .fld 0 (.t 11), (some (33, false))⟩,
 ⟨(some 35), .load 1 false (.t 34), (some (33, false))⟩,
 ⟨(some 36), .fld 1 (.t 8), (some (33, false))⟩,
 ⟨(some 37), .load 1 false (.t 36), (some (33, false))⟩,
 ⟨(some 38), .bin .gtr (.t 35) (.t 37), (some (33, false))⟩,
 ⟨(some 39), .pick (.t 33) (.k (.bool true)) (.t 38), none⟩])
 (.cond (.t 39)
 (.exit 3)
 .skip))
 (.seq
 (.seq
 (.reg [
 ⟨(some 40), .fld 1 (.t 3), none⟩,
 ⟨(some 41), .load 1 false (.t 40), none⟩])
 (.cond (.t 41)
 (.reg [
 ⟨(some 42), .mov (.t 6), none⟩,
 ⟨(some 43), .mov (.t 9), none⟩,
 ⟨(some 44), .fld 0 (.t 11), none⟩,
 ⟨(some 45), .load 1 false (.t 44), none⟩,
 ⟨(some 46), .bin .sub (.t 45) (.k (.int .i64 1)), none⟩,
 ⟨(some 47), .callv (.t 42) [(.t 43), (.t 46)], none⟩])
 (.reg [
 ⟨(some 48), .mov (.t 6), none⟩,
 ⟨(some 49), .mov (.t 9), none⟩,
 ⟨(some 50), .fld 0 (.t 11), none⟩,
 ⟨(some 51), .load 1 false (.t 50), none⟩,
 ⟨(some 52), .minmax true (.t 49) (.t 51), none⟩,
 ⟨(some 53), .fld 1 (.t 8), none⟩,
 ⟨(some 54), .load 1 false (.t 53), none⟩,
 ⟨(some 55), .fld 1 (.t 11), none⟩,
 ⟨(some 56), .load 1 false (.t 55), none⟩,
 ⟨(some 57), .minmax false (.t 54) (.t 56), none⟩,
 ⟨(some 58), .callv (.t 48) [(.t 52), (.t 57)], none⟩])))
 (.reg [
 ⟨(some 59), .fld 1 (.t 11), none⟩,
 ⟨(some 60), .load 1 false (.t 59), none⟩,
 ⟨(some 61), .bin .add (.t 60) (.k (.int .i64 1)), none⟩,
 ⟨(some 9), .mov (.t 61), none⟩])))))
 (.reg [
 ⟨(some 62), .bin .add (.t 24) (.k (.int .i64 1)), none⟩,
 ⟨(some 24), .mov (.t 62), none⟩])))))))
 (.seq
 (.reg [
 ⟨(some 63), .fld 1 (.t 3), none⟩,
 ⟨(some 64), .load 1 false (.t 63), none⟩])
 (.cond (.t 64)
 (.reg [
 ⟨(some 65), .mov (.t 6), none⟩,
 ⟨(some 66), .mov (.t 9), none⟩,
 ⟨(some 67), .fld 1 (.t 8), none⟩,
 ⟨(some 68), .load 1 false (.t 67), none⟩,
 ⟨(some 69), .callv (.t 65) [(.t 66), (.t 68)], none⟩])
 .skip))))))
 (.reg [
 ⟨(some 70), .bin .add (.t 15) (.k (.int .i64 1)), none⟩,
 ⟨(some 15), .mov (.t 70), none⟩])))))))
 (.seq
 (.reg [
 ⟨(some 71), .load 1 false (.t 5), none⟩,
 ⟨(some 4), .mov (.t 71), none⟩])
 .ret)))))
theorem a34 : Go.Proofs.Try.f34.body.bind (comp Go.Proofs.Try.prog) = some A34 := by kernel_rfl
theorem r34 : compRVs Go.Proofs.Try.prog Go.Proofs.Try.f34.results.toList = some [.tmp 4] := by kernel_rfl
theorem n34 : (Go.Proofs.Try.f34.name == "runtime.NumGoroutine") = false := by decide +kernel
def E34 : Nat × ACode × Nat × List RV := (34, A34, 72, [.tmp 4])
theorem e34 : EntryOk Go.Proofs.Try.prog E34 := ⟨Go.Proofs.Try.f34, Go.Proofs.Try.func34, n34, a34, Go.Proofs.Try.ntmps34, r34⟩
/-! reedpen/reedpenlaw11.alive -/
def A36 : ACode :=
 (.seq
 (.reg [
 ⟨(some 0), .mov (.k (.bool false)), none⟩])
 (.seq
 (.reg [
 ⟨(some 6), .lits 1 5 [(.k (.int .u8 0)), (.k (.int .u8 3)), (.k (.int .u8 0)), (.k (.int .u8 1)), (.k (.int .u8 0)), (.k (.int .u8 0)), (.k (.int .u8 0)), (.k (.int .u8 8)), (.k (.int .u8 0)), (.k (.int .u8 1)), (.k (.int .u8 0)), (.k (.int .u8 1)), (.k (.int .u8 0)), (.k (.int .u8 5))], none⟩,
 ⟨(some 7), .call 37 [(.t 6), (.k (.int .i64 0))], none⟩,
 ⟨(some 5), .mov (.t 7), none⟩,
 ⟨(some 8), .ext 0 (.t 5), none⟩,
 ⟨(some 9), .ext 1 (.t 5), none⟩,
 ⟨(some 1), .mov (.t 8), none⟩,
 ⟨(some 2), .mov (.t 9), none⟩])
 (.seq
 (.reg [
 ⟨(some 11), .lits 1 5 [(.k (.int .u8 0)), (.k (.int .u8 3)), (.k (.int .u8 0)), (.k (.int .u8 0)), (.k (.int .u8 0)), (.k (.int .u8 1)), (.k (.int .u8 0)), (.k (.int .u8 12)), (.k (.int .u8 0)), (.k (.int .u8 0)), (.k (.int .u8 0)), (.k (.int .u8 0)), (.k (.int .u8 0)), (.k (.int .u8 1)), (.k (.int .u8 0)), (.k (.int .u8 1)), (.k (.int .u8 0)), (.k (.int .u8 5))], none⟩,
 ⟨(some 12), .call 40 [(.t 11), (.k (.int .i64 0))], none⟩,
 ⟨(some 10), .mov (.t 12), none⟩,
 ⟨(some 13), .ext 0 (.t 10), none⟩,
 ⟨(some 14), .ext 1 (.t 10), none⟩,
 ⟨(some 3), .mov (.t 13), none⟩,
 ⟨(some 4), .mov (.t 14), none⟩])
 (.seq
 (.reg [
 ⟨(some 15), .mov (.t 2), none⟩,
 ⟨(some 16), .mov (.t 15), none⟩,
 ⟨(some 17), .mov (.t 4), (some (16, true))⟩,
 ⟨(some 18), .pick (.t 16) (.t 17) (.k (.bool false)), none⟩,
 ⟨(some 19), .mov (.t 18), none⟩,
 ⟨(some 20), .mov (.t 1), (some (19, true))⟩,
 ⟨(some 21), .len false (.t 20), (some (19, true))⟩,
 ⟨(some 22), .bin .eql (.t 21) (.k (.int .i64 1)), (some (19, true))⟩,
 ⟨(some 23), .pick (.t 19) (.t 22) (.k (.bool false)), none⟩,
 ⟨(some 24), .mov (.t 23), none⟩,
 ⟨(some 25), .mov (.t 1), (some (24, true))⟩,
 ⟨(some 26), .idx 4 (.t 25) (.k (.int .i64 0)), (some (24, true))⟩,
 ⟨(some 27), .fld 1 (.t 26), (some (24, true))⟩,
 ⟨(some 28), .load 1 false (.t 27), (some (24, true))⟩,
 ⟨(some 29), .len false (.t 28), (some (24, true))⟩,
 ⟨(some 30), .bin .eql (.t 29) (.k (.int .i64 1)), (some (24, true))⟩,
 ⟨(some 31), .pick (.t 24) (.t 30) (.k (.bool false)), none⟩,
 ⟨(some 32), .mov (.t 31), none⟩,
 ⟨(some 33), .mov (.t 1), (some (32, true))⟩,
 ⟨(some 34), .idx 4 (.t 33) (.k (.int .i64 0)), (some (32, true))⟩,
 ⟨(some 35), .fld 1 (.t 34), (some (32, true))⟩,
 ⟨(some 36), .load 1 false (.t 35), (some (32, true))⟩,
 ⟨(some 37), .idx 2 (.t 36) (.k (.int .i64 0)), (some (32, true))⟩,
 ⟨(some 38), .fld 0 (.t 37), (some (32, true))⟩,
 ⟨(some 39), .load 1 false (.t 38), (some (32, true))⟩,
 ⟨(some 40), .len false (.t 39), (some (32, true))⟩,
 ⟨(some 41), .bin .eql (.t 40) (.k (.int .i64 1)), (some (32, true))⟩,
 ⟨(some 42), .pick (.t 32) (.t 41) (.k (.bool false)), none⟩,
 ⟨(some 43), .mov (.t 42), none⟩,
 ⟨(some 44), .mov (.t 1), (some (43, true))⟩,
 ⟨(some 45), .mov (.t 3), (some (43, true))⟩,
 ⟨(some 46), .call 39 [(.t 44), (.t 45)], (some (43, true))⟩,
 ⟨(some 47), .pick (.t 43) (.t 46) (.k (.bool false)), none⟩,
 ⟨(some 0), .mov (.t 47), none⟩])
 .ret))))
theorem a36 : Go.Proofs.Try.f36.body.bind (comp Go.Proofs.Try.prog) = some A36 := by kernel_rfl
theorem r36 : compRVs Go.Proofs.Try.prog Go.Proofs.Try.f36.results.toList = some [.tmp 0] := by kernel_rfl
theorem n36 : (Go.Proofs.Try.f36.name == "runtime.NumGoroutine") = false := by decide +kernel
def E36 : Nat × ACode × Nat × List RV := (36, A36, 48, [.tmp 0])
theorem e36 : EntryOk Go.Proofs.Try.prog E36 := ⟨Go.Proofs.Try.f36, Go.Proofs.Try.func36, n36, a36, Go.Proofs.Try.ntmps36, r36⟩
/-! reedpen/context.Context -/
def A37 : ACode :=
 (.seq
 (.reg [
 ⟨(some 4), .mov (.k (.vec true [])), none⟩,
 ⟨(some 5), .mov (.k (.bool false)), none⟩])
 (.seq
 (.reg [
 ⟨(some 6), .mov (.t 0), none⟩,
 ⟨(some 7), .mov (.t 1), none⟩,
 ⟨(some 8), .call 63 [(.t 6), (.t 7), (.k (.bool false))], none⟩,
 ⟨(some 9), .ext 0 (.t 8), none⟩,
 ⟨(some 10), .ext 1 (.t 8), none⟩,
 ⟨(some 4), .mov (.t 9), none⟩,
 ⟨(some 5), .mov (.t 10), none⟩])
 .ret))
theorem a37 : Go.Proofs.Try.f37.body.bind (comp Go.Proofs.Try.prog) = some A37 := by kernel_rfl
theorem r37 : compRVs Go.Proofs.Try.prog Go.Proofs.Try.f37.results.toList = some [.tmp 4, .tmp 5] := by kernel_rfl
theorem n37 : (Go.Proofs.Try.f37.name == "runtime.NumGoroutine") = false := by decide +kernel
def E37 : Nat × ACode × Nat × List RV := (37, A37, 11, [.tmp 4, .tmp 5])
theorem e37 : EntryOk Go.Proofs.Try.prog E37 := ⟨Go.Proofs.Try.f37, Go.Proofs.Try.func37, n37, a37, Go.Proofs.Try.ntmps37, r37⟩
/-! reedpen/reedpenref11.Same -/
def A39 : ACode :=
 (.seq
 (.reg [
 ⟨(some 4), .mov (.k (.bool false)), none⟩])
 (.seq
 (.seq
 (.reg [
 ⟨(some 7), .mov (.t 0), none⟩,
 ⟨(some 8), .len false (.t 7), none⟩,
 ⟨(some 9), .mov (.t 1), none⟩,
 ⟨(some 10), .len false (.t 9), none⟩,
 ⟨(some 11), .bin .neq (.t 8) (.t 10), none⟩])
 (.cond (.t 11)
 (.seq
 (.reg [
 ⟨(some 4), .mov (.k (.bool false)), none⟩])
 .ret)
 .skip))
 (.seq
 (.seq
 (.reg [
 ⟨(some 5), .mov (.k (.int .i64 0)), none⟩])
 (.block 0
 (.loop
 (.seq
 (.seq
 (.reg [
 ⟨(some 12), .mov (.t 5), none⟩,
 ⟨(some 13), .mov (.t 0), none⟩,
 ⟨(some 14), .len false (.t 13), none⟩,
 ⟨(some 15), .bin .lss (.t 12) (.t 14), none⟩])
 (.cond (.t 15)
 .skip
 (.exit 0)))
 (.seq
 (.block 1
 (.seq
 (.seq
 (.regd [
 ⟨⟨(some 18), .mov (.t 0), none⟩, 0, [], false⟩,
 ⟨⟨(some 19), .mov (.t 5), none⟩, 1, [], false⟩,
 ⟨⟨(some 20), .idx 4 (.t 18) (.t 19), none⟩, 2, [], false⟩,
 ⟨⟨(some 21), .fld 0 (.t 20), none⟩, 3, [], false⟩,
 ⟨⟨(some 22), .load 1 false (.t 21), none⟩, 4, [], false⟩,
 ⟨⟨(some 23), .mov (.t 1), none⟩, 5, [], false⟩,
 ⟨⟨(some 24), .mov (.t 5), none⟩, 6, [], false⟩,
 ⟨⟨(some 25), .idx 4 (.t 23) (.t 24), none⟩, 7, [], false⟩,
 ⟨⟨(some 26), .fld 0 (.t 25), none⟩, 8, [], false⟩,
 ⟨⟨(some 27), .load 1 false (.t 26), none⟩, 9, [], false⟩,
 ⟨⟨(some 28), .call 69 [(.t 22), (.t 27)], none⟩, 10, [4, 3, 2, 0, 1, 9, 8, 7, 5, 6], false⟩,
 ⟨⟨(some 29), .un .not (.t 28), none⟩, 11, [], false⟩,
 ⟨⟨(some 30), .mov (.t 29), none⟩, 12, [], false⟩,
 ⟨⟨(some 31), .mov (.t 0), (some (30, false))⟩, 13, [], false⟩,
 ⟨⟨(some 32), .mov (.t 5), (some (30, false))⟩, 14, [], false⟩,
 ⟨⟨(some 33), .idx 4 (.t 31) (.t 32), (some (30, false))⟩, 15, [], true⟩,
 ⟨⟨(some 34), .fld 1 (.t 33), (some (30, false))⟩, 16, [], false⟩,
 ⟨⟨(some 35), .load 1 false (.t 34), (some (30, false))⟩, 17, [], true⟩,
 ⟨⟨(some 36), .mov (.t 1), (some (30, false))⟩, 18, [], false⟩,
 ⟨⟨(some 37), .mov (.t 5), (some (30, false))⟩, 19, [], false⟩,
 ⟨⟨(some 38), .idx 4 (.t 36) (.t 37), (some (30, false))⟩, 20, [], true⟩,
 ⟨⟨(some 39), .fld 1 (.t 38), (some (30, false))⟩, 21, [], false⟩,
 ⟨⟨(some 40), .load 1 false (.t 39), (some (30, false))⟩, 22, [], true⟩,
 ⟨⟨(some 41), .call 69 [(.t 35), (.t 40)], (some (30, false))⟩, 23, [17, 16, 15, 13, 12, 11, 10, 4, 3, 2, 0, 1, 9, 8, 7, 5, 6, 14, 22, 21, 20, 18, 19], false⟩,
 ⟨⟨(some 42), .un .not (.t 41), (some (30, false))⟩, 24, [], false⟩,
 ⟨⟨(some 43), .pick (.t 30) (.k (.bool true)) (.t 42), none⟩, 25, [], false⟩,
 ⟨⟨(some 44), .mov (.t 43), none⟩, 26, [], false⟩,
 ⟨⟨(some 45), .mov (.t 0), (some (44, false))⟩, 27, [], false⟩,
 ⟨⟨(some 46), .mov (.t 5), (some (44, false))⟩, 28, [], false⟩,
 ⟨⟨(some 47), .idx 4 (.t 45) (.t 46), (some (44, false))⟩, 29, [], true⟩,
 ⟨⟨(some 48), .fld 2 (.t 47), (some (44, false))⟩, 30, [], false⟩,
 ⟨⟨(some 49), .load 1 false (.t 48), (some (44, false))⟩, 31, [], true⟩,
 ⟨⟨(some 50), .mov (.t 1), (some (44, false))⟩, 32, [], false⟩,
 ⟨⟨(some 51), .mov (.t 5), (some (44, false))⟩, 33, [], false⟩,
 ⟨⟨(some 52), .idx 4 (.t 50) (.t 51), (some (44, false))⟩, 34, [], true⟩,
 ⟨⟨(some 53), .fld 2 (.t 52), (some (44, false))⟩, 35, [], false⟩,
 ⟨⟨(some 54), .load 1 false (.t 53), (some (44, false))⟩, 36, [], true⟩,
 ⟨⟨(some 55), .call 69 [(.t 49), (.t 54)], (some (44, false))⟩, 37, [31, 30, 29, 27, 26, 25, 12, 11, 10, 4, 3, 2, 0, 1, 9, 8, 7, 5, 6, 24, 23, 17, 16, 15, 13, 14, 22, 21, 20, 18, 19, 28, 36, 35, 34, 32, 33], false⟩,
 ⟨⟨(some 56), .un .not (.t 55), (some (44, false))⟩, 38, [], false⟩,
 ⟨⟨(some 57), .pick (.t 44) (.k (.bool true)) (.t 56), none⟩, 39, [], false⟩,
 ⟨⟨(some 58), .mov (.t 57), none⟩, 40, [], false⟩,
 ⟨⟨(some 59), .mov (.t 0), (some (58, false))⟩, 41, [], false⟩,
 ⟨⟨(some 60), .mov (.t 5), (some (58, false))⟩, 42, [], false⟩,
 ⟨⟨(some 61), .idx 4 (.t 59) (.t 60), (some (58, false))⟩, 43, [], true⟩,
 ⟨⟨(some 62), .fld 3 (.t 61), (some (58, false))⟩, 44, [], false⟩,
 ⟨⟨(some 63), .load 1 false (.t 62), (some (58, false))⟩, 45, [], true⟩,
 ⟨⟨(some 64), .len false (.t 63), (some (58, false))⟩, 46, [], false⟩,
 ⟨⟨(some 65), .mov (.t 1), (some (58, false))⟩, 47, [], false⟩,
 ⟨⟨(some 66), .mov (.t 5), (some (58, false))⟩, 48, [], false⟩,
 ⟨⟨(some 67), .idx 4 (.t 65) (.t 66), (some (58, false))⟩, 49, [], true⟩,
 ⟨⟨(some 68), .fld 3 (.t 67), (some (58, false))⟩, 50, [], false⟩,
 ⟨⟨(some 69), .load 1 false (.t 68), (some (58, false))⟩, 51, [], true⟩,
 ⟨⟨(some 70), .len false (.t 69), (some (58, false))⟩, 52, [], false⟩,
 ⟨⟨(some 71), .bin .neq (.t 64) (.t 70), (some (58, false))⟩, 53, [], false⟩,
 ⟨⟨(some 72), .pick (.t 58) (.k (.bool true)) (.t 71), none⟩, 54, [], false⟩])
 (.cond (.t 72)
 (.seq
 (.reg [
 ⟨(some 4), .mov (.k (.bool false)), none⟩])
 .ret)
 .skip))
 (.seq
 (.reg [
 ⟨(some 6), .mov (.k (.int .i64 0)), none⟩])
 (.block 2
 (.loop
 (.seq
 (.seq
 (.reg [
 ⟨(some 73), .mov (.t 6), none⟩,
 ⟨(some 74), .mov (.t 0), none⟩,
 ⟨(some 75), .mov (.t 5), none⟩,
 ⟨(some 76), .idx 4 (.t 74) (.t 75), none⟩,
 ⟨(some 77), .fld 3 (.t 76), none⟩,
 ⟨(some 78), .load 1 false (.t 77), none⟩,
 ⟨(some 79), .len false (.t 78), none⟩,
 ⟨(some 80), .bin .lss (.t 73) (.t 79), none⟩])
 (.cond (.t 80)
 .skip
 (.exit 2)))
 (.seq
 (.block 3
 (.seq
 (.regd [
 ⟨⟨(some 83), .mov (.t 0), none⟩, 0, [], false⟩,
 ⟨⟨(some 84), .mov (.t 5), none⟩, 1, [], false⟩,
 ⟨⟨(some 85), .idx 4 (.t 83) (.t 84), none⟩, 2, [], false⟩,
 ⟨⟨(some 86), .fld 3 (.t 85), none⟩, 3, [], false⟩,
 ⟨⟨(some 87), .load 1 false (.t 86), none⟩, 4, [], false⟩,
 ⟨⟨(some 88), .mov (.t 6), none⟩, 5, [], false⟩,
 ⟨⟨(some 89), .idx 2 (.t 87) (.t 88), none⟩, 6, [], false⟩,
 ⟨⟨(some 90), .load 2 true (.t 89), none⟩, 7, [], false⟩,
 ⟨⟨(some 91), .mov (.t 1), none⟩, 8, [], false⟩,
 ⟨⟨(some 92), .mov (.t 5), none⟩, 9, [], false⟩,
 ⟨⟨(some 93), .idx 4 (.t 91) (.t 92), none⟩, 10, [], false⟩,
 ⟨⟨(some 94), .fld 3 (.t 93), none⟩, 11, [], false⟩,
 ⟨⟨(some 95), .load 1 false (.t 94), none⟩, 12, [], false⟩,
 ⟨⟨(some 96), .mov (.t 6), none⟩, 13, [], false⟩,
 ⟨⟨(some 97), .idx 2 (.t 95) (.t 96), none⟩, 14, [], false⟩,
 ⟨⟨(some 98), .load 2 true (.t 97), none⟩, 15, [], false⟩,
 ⟨⟨(some 99), .eqs true [0, 0] (.t 90) (.t 98), none⟩, 16, [], false⟩])
 (.cond (.t 99)
 (.seq
 (.reg [
 ⟨(some 4), .mov (.k (.bool false)), none⟩])
 .ret)
 .skip)))
 (.reg [
 ⟨(some 81), .mov (.t 6), none⟩,
 ⟨(some 82), .bin .add (.t 81) (.k (.int .i64 1)), none⟩,
 ⟨(some 6), .mov (.t 82), none⟩]))))))))
 (.reg [
 ⟨(some 16), .mov (.t 5), none⟩,
 ⟨(some 17), .bin .add (.t 16) (.k (.int .i64 1)), none⟩,
 ⟨(some 5), .mov (.t 17), none⟩]))))))
 (.seq
 (.reg [
 ⟨(some 4), .mov (.k (.bool true)), none⟩])
 .ret))))
theorem a39 : Go.Proofs.Try.f39.body.bind (comp Go.Proofs.Try.prog) = some A39 := by kernel_rfl
theorem r39 : compRVs Go.Proofs.Try.prog Go.Proofs.Try.f39.results.toList = some [.tmp 4] := by kernel_rfl
theorem n39 : (Go.Proofs.Try.f39.name == "runtime.NumGoroutine") = false := by decide +kernel
def E39 : Nat × ACode × Nat × List RV := (39, A39, 100, [.tmp 4])
theorem e39 : EntryOk Go.Proofs.Try.prog E39 := ⟨Go.Proofs.Try.f39, Go.Proofs.Try.func39, n39, a39, Go.Proofs.Try.ntmps39, r39⟩
/-! reedpen/context.Chain -/
def A40 : ACode :=
 (.seq
 (.reg [
 ⟨(some 4), .mov (.k (.vec true [])), none⟩,
 ⟨(some 5), .mov (.k (.bool false)), none⟩])
 (.seq
 (.reg [
 ⟨(some 6), .mov (.t 0), none⟩,
 ⟨(some 7), .mov (.t 1), none⟩,
 ⟨(some 8), .call 63 [(.t 6), (.t 7), (.k (.bool true))], none⟩,
 ⟨(some 9), .ext 0 (.t 8), none⟩,
 ⟨(some 10), .ext 1 (.t 8), none⟩,
 ⟨(some 4), .mov (.t 9), none⟩,
 ⟨(some 5), .mov (.t 10), none⟩])
 .ret))
theorem a40 : Go.Proofs.Try.f40.body.bind (comp Go.Proofs.Try.prog) = some A40 := by kernel_rfl
theorem r40 : compRVs Go.Proofs.Try.prog Go.Proofs.Try.f40.results.toList = some [.tmp 4, .tmp 5] := by kernel_rfl
theorem n40 : (Go.Proofs.Try.f40.name == "runtime.NumGoroutine") = false := by decide +kernel
def E40 : Nat × ACode × Nat × List RV := (40, A40, 11, [.tmp 4, .tmp 5])
theorem e40 : EntryOk Go.Proofs.Try.prog E40 := ⟨Go.Proofs.Try.f40, Go.Proofs.Try.func40, n40, a40, Go.Proofs.Try.ntmps40, r40⟩
/-! reedpen/cover.format -/
def A53 : ACode :=
 (.seq
 (.reg [
 ⟨(some 4), .mov (.k (.int .i64 0)), none⟩])
 (.seq
 (.reg [
 ⟨(some 8), .mov (.t 0), none⟩,
 ⟨(some 9), .mov (.t 1), none⟩,
 ⟨(some 10), .call 57 [(.t 8), (.t 9)], none⟩,
 ⟨(some 7), .mov (.t 10), none⟩,
 ⟨(some 11), .ext 0 (.t 7), none⟩,
 ⟨(some 12), .ext 1 (.t 7), none⟩,
 ⟨(some 5), .mov (.t 11), none⟩,
 ⟨(some 6), .mov (.t 12), none⟩])
 (.seq
 (.seq
 (.reg [
 ⟨(some 13), .mov (.t 6), none⟩,
 ⟨(some 14), .un .not (.t 13), none⟩])
 (.cond (.t 14)
 (.seq
 (.reg [
 ⟨(some 4), .mov (.k (.int .i64 0)), none⟩])
 .ret)
 .skip))
 (.seq
 (.reg [
 ⟨(some 15), .mov (.t 5), none⟩,
 ⟨(some 4), .mov (.t 15), none⟩])
 .ret))))
theorem a53 : Go.Proofs.Try.f53.body.bind (comp Go.Proofs.Try.prog) = some A53 := by kernel_rfl
theorem r53 : compRVs Go.Proofs.Try.prog Go.Proofs.Try.f53.results.toList = some [.tmp 4] := by kernel_rfl
theorem n53 : (Go.Proofs.Try.f53.name == "runtime.NumGoroutine") = false := by decide +kernel
def E53 : Nat × ACode × Nat × List RV := (53, A53, 16, [.tmp 4])
theorem e53 : EntryOk Go.Proofs.Try.prog E53 := ⟨Go.Proofs.Try.f53, Go.Proofs.Try.func53, n53, a53, Go.Proofs.Try.ntmps53, r53⟩
/-! reedpen/cover.glyphs -/
def A54 : ACode :=
 (.seq
 (.reg [
 ⟨(some 4), .mov (.k (.vec true [])), none⟩,
 ⟨(some 5), .mov (.k (.bool false)), none⟩])
 (.seq
 (.reg [
 ⟨(some 15), .mov (.t 0), none⟩,
 ⟨(some 16), .mov (.t 1), none⟩,
 ⟨(some 17), .bin .add (.t 16) (.k (.int .i64 2)), none⟩,
 ⟨(some 18), .call 57 [(.t 15), (.t 17)], none⟩,
 ⟨(some 14), .mov (.t 18), none⟩,
 ⟨(some 19), .ext 0 (.t 14), none⟩,
 ⟨(some 20), .ext 1 (.t 14), none⟩,
 ⟨(some 6), .mov (.t 19), none⟩,
 ⟨(some 7), .mov (.t 20), none⟩])
 (.seq
 (.reg [
 ⟨(some 22), .mov (.t 0), none⟩,
 ⟨(some 23), .mov (.t 1), none⟩,
 ⟨(some 24), .bin .add (.t 23) (.k (.int .i64 4)), none⟩,
 ⟨(some 25), .mov (.t 6), none⟩,
 ⟨(some 26), .call 58 [(.t 22), (.t 24), (.t 25), (.k (.int .i64 2))], none⟩,
 ⟨(some 21), .mov (.t 26), none⟩,
 ⟨(some 27), .ext 0 (.t 21), none⟩,
 ⟨(some 28), .ext 1 (.t 21), none⟩,
 ⟨(some 8), .mov (.t 27), none⟩,
 ⟨(some 9), .mov (.t 28), none⟩])
 (.seq
 (.seq
 (.reg [
 ⟨(some 29), .mov (.t 7), none⟩,
 ⟨(some 30), .un .not (.t 29), none⟩,
 ⟨(some 31), .mov (.t 30), none⟩,
 ⟨(some 32), .mov (.t 9), (some (31, false))⟩,
 ⟨(some 33), .un .not (.t 32), (some (31, false))⟩,
 ⟨(some 34), .pick (.t 31) (.k (.bool true)) (.t 33), none⟩])
 (.cond (.t 34)
 (.seq
 (.reg [
 ⟨(some 4), .mov (.k (.vec true [])), none⟩,
 ⟨(some 5), .mov (.k (.bool false)), none⟩])
 .ret)
 .skip))
 (.seq
 (.reg [
 ⟨(some 10), .mov (.k (.vec true [])), none⟩])
 (.seq
 (.reg [
 ⟨(some 11), .mov (.k (.int .i64 (-1))), none⟩])
 (.seq
 (.seq
 (.reg [
 ⟨(some 35), .mov (.t 8), none⟩,
 ⟨(some 36), .len false (.t 35), none⟩,
 ⟨(some 37), .mov (.k (.int .i64 0)), none⟩])
 (.block 0
 (.loop
 (.seq
 (.reg [
 ⟨(some 38), .bin .lss (.t 37) (.t 36), none⟩])
 (.seq
 (.cond (.t 38)
 .skip
 (.exit 0))
 (.seq
 (.block 1
 (.seq
 (.reg [
 ⟨(some 39), .idx 1 (.t 35) (.t 37), none⟩,
 ⟨(some 40), .load 1 false (.t 39), none⟩,
 ⟨(some 13), .mov (.t 40), none⟩])
 (.seq
 (.seq
 (.reg [
 ⟨(some 41), .mov (.t 13), none⟩,
 ⟨(some 42), .mov (.t 11), none⟩,
 ⟨(some 43), .bin .leq (.t 41) (.t 42), none⟩])
 (.cond (.t 43)
 (.seq
 (.reg [
 ⟨(some 4), .mov (.k (.vec true [])), none⟩,
 ⟨(some 5), .mov (.k (.bool false)), none⟩])
 .ret)
 .skip))
 (.seq
 (.reg [
 ⟨(some 44), .mov (.t 13), none⟩,
 ⟨(some 11), .mov (.t 44), none⟩])
 (.reg [
 ⟨(some 45), .mov (.t 10), none⟩,
 ⟨(some 46), .mov (.t 13), none⟩,
 ⟨(some 47), .mov (.t 13), none⟩,
 ⟨(some 48), .build [(.int .i64 0), (.int .i64 0)] [(0, 1, (.t 46)), (1, 1, (.t 47))], none⟩,
 ⟨(some 49), .call 61 [(.t 45), (.t 48)], none⟩,
 ⟨(some 10), .mov (.t 49), none⟩])))))
 (.reg [
 ⟨(some 50), .bin .add (.t 37) (.k (.int .i64 1)), none⟩,
 ⟨(some 37), .mov (.t 50), none⟩])))))))
 (.seq
 (.reg [
 ⟨(some 51), .mov (.t 10), none⟩,
 ⟨(some 4), .mov (.t 51), none⟩,
 ⟨(some 5), .mov (.k (.bool true)), none⟩])
 .ret))))))))
theorem a54 : Go.Proofs.Try.f54.body.bind (comp Go.Proofs.Try.prog) = some A54 := by kernel_rfl
theorem r54 : compRVs Go.Proofs.Try.prog Go.Proofs.Try.f54.results.toList = some [.tmp 4, .tmp 5] := by kernel_rfl
theorem n54 : (Go.Proofs.Try.f54.name == "runtime.NumGoroutine") = false := by decide +kernel
def E54 : Nat × ACode × Nat × List RV := (54, A54, 52, [.tmp 4, .tmp 5])
theorem e54 : EntryOk Go.Proofs.Try.prog E54 := ⟨Go.Proofs.Try.f54, Go.Proofs.Try.func54, n54, a54, Go.Proofs.Try.ntmps54, r54⟩
/-! reedpen/cover.ranges -/
def A55 : ACode :=
 (.seq
 (.reg [
 ⟨(some 4), .mov (.k (.vec true [])), none⟩,
 ⟨(some 5), .mov (.k (.bool false)), none⟩])
 (.seq
 (.reg [
 ⟨(some 13), .mov (.t 0), none⟩,
 ⟨(some 14), .mov (.t 1), none⟩,
 ⟨(some 15), .call 60 [(.t 13), (.t 14)], none⟩,
 ⟨(some 12), .mov (.t 15), none⟩,
 ⟨(some 16), .ext 0 (.t 12), none⟩,
 ⟨(some 17), .ext 1 (.t 12), none⟩,
 ⟨(some 6), .mov (.t 16), none⟩,
 ⟨(some 7), .mov (.t 17), none⟩])
 (.seq
 (.seq
 (.reg [
 ⟨(some 18), .mov (.t 7), none⟩,
 ⟨(some 19), .un .not (.t 18), none⟩])
 (.cond (.t 19)
 (.seq
 (.reg [
 ⟨(some 4), .mov (.k (.vec true [])), none⟩,
 ⟨(some 5), .mov (.k (.bool false)), none⟩])
 .ret)
 .skip))
 (.seq
 (.reg [
 ⟨(some 8), .mov (.k (.vec true [])), none⟩])
 (.seq
 (.reg [
 ⟨(some 9), .mov (.k (.int .i64 0)), none⟩])
 (.seq
 (.seq
 (.reg [
 ⟨(some 20), .mov (.t 6), none⟩,
 ⟨(some 21), .len false (.t 20), none⟩,
 ⟨(some 22), .mov (.k (.int .i64 0)), none⟩])
 (.block 0
 (.loop
 (.seq
 (.reg [
 ⟨(some 23), .bin .lss (.t 22) (.t 21), none⟩])
 (.seq
 (.cond (.t 23)
 .skip
 (.exit 0))
 (.seq
 (.block 1
 (.seq
 (.reg [
 ⟨(some 24), .idx 3 (.t 20) (.t 22), none⟩,
 ⟨(some 25), .load 3 true (.t 24), none⟩,
 ⟨(some 11), .new [(.int .i64 0), (.int .i64 0), (.int .i64 0)] 97, none⟩,
 ⟨none, .store 3 (.t 11) (.t 25), none⟩])
 (.seq
 (.seq
 (.reg [
 ⟨(some 26), .idxa 1 3 (.t 11) (.k (.int .i64 2)), none⟩,
 ⟨(some 27), .load 1 false (.t 26), none⟩,
 ⟨(some 28), .mov (.t 9), none⟩,
 ⟨(some 29), .bin .neq (.t 27) (.t 28), none⟩])
 (.cond (.t 29)
 (.seq
 (.reg [
 ⟨(some 4), .mov (.k (.vec true [])), none⟩,
 ⟨(some 5), .mov (.k (.bool false)), none⟩])
 .ret)
 .skip))
 (.seq
 (.reg [
 ⟨(some 30), .mov (.t 9), none⟩,
 ⟨(some 31), .idxa 1 3 (.t 11) (.k (.int .i64 1)), none⟩,
 ⟨(some 32), .load 1 false (.t 31), none⟩,
 ⟨(some 33), .idxa 1 3 (.t 11) (.k (.int .i64 0)), none⟩,
 ⟨(some 34), .load 1 false (.t 33), none⟩,
 ⟨(some 35), .bin .sub (.t 32) (.t 34), none⟩,
 ⟨(some 36), .bin .add (.t 35) (.k (.int .i64 1)), none⟩,
 ⟨(some 37), .bin .add (.t 30) (.t 36), none⟩,
 ⟨(some 9), .mov (.t 37), none⟩])
 (.reg [
 ⟨(some 38), .mov (.t 8), none⟩,
 ⟨(some 39), .idxa 1 3 (.t 11) (.k (.int .i64 0)), none⟩,
 ⟨(some 40), .load 1 false (.t 39), none⟩,
 ⟨(some 41), .idxa 1 3 (.t 11) (.k (.int .i64 1)), none⟩,
 ⟨(some 42), .load 1 false (.t 41), none⟩,
 ⟨(some 43), .build [(.int .i64 0), (.int .i64 0)] [(0, 1, (.t 40)), (1, 1, (.t 42))], none⟩,
 ⟨(some 44), .call 61 [(.t 38), (.t 43)], none⟩,
 ⟨(some 8), .mov (.t 44), none⟩])))))
 (.reg [
 ⟨(some 45), .bin .add (.t 22) (.k (.int .i64 1)), none⟩,
 ⟨(some 22), .mov (.t 45), none⟩])))))))
 (.seq
 (.reg [
 ⟨(some 46), .mov (.t 8), none⟩,
 ⟨(some 4), .mov (.t 46), none⟩,
 ⟨(some 5), .mov (.k (.bool true)), none⟩])
 .ret)))))))
theorem a55 : Go.Proofs.Try.f55.body.bind (comp Go.Proofs.Try.prog) = some A55 := by kernel_rfl
theorem r55 : compRVs Go.Proofs.Try.prog Go.Proofs.Try.f55.results.toList = some [.tmp 4, .tmp 5] := by kernel_rfl
theorem n55 : (Go.Proofs.Try.f55.name == "runtime.NumGoroutine") = false := by decide +kernel
def E55 : Nat × ACode × Nat × List RV := (55, A55, 47, [.tmp 4, .tmp 5])
theorem e55 : EntryOk Go.Proofs.Try.prog E55 := ⟨Go.Proofs.Try.f55, Go.Proofs.Try.func55, n55, a55, Go.Proofs.Try.ntmps55, r55⟩
/-! reedpen/octet.U16 -/
def A57 : ACode :=
 (.seq
 (.reg [
 ⟨(some 4), .mov (.k (.int .i64 0)), none⟩,
 ⟨(some 5), .mov (.k (.bool false)), none⟩])
 (.seq
 (.reg [
 ⟨(some 6), .mov (.t 0), none⟩,
 ⟨(some 7), .mov (.t 1), none⟩,
 ⟨(some 8), .call 77 [(.t 6), (.t 7), (.k (.int .i64 2))], none⟩,
 ⟨(some 9), .ext 0 (.t 8), none⟩,
 ⟨(some 10), .ext 1 (.t 8), none⟩,
 ⟨(some 4), .mov (.t 9), none⟩,
 ⟨(some 5), .mov (.t 10), none⟩])
 .ret))
theorem a57 : Go.Proofs.Try.f57.body.bind (comp Go.Proofs.Try.prog) = some A57 := by kernel_rfl
theorem r57 : compRVs Go.Proofs.Try.prog Go.Proofs.Try.f57.results.toList = some [.tmp 4, .tmp 5] := by kernel_rfl
theorem n57 : (Go.Proofs.Try.f57.name == "runtime.NumGoroutine") = false := by decide +kernel
def E57 : Nat × ACode × Nat × List RV := (57, A57, 11, [.tmp 4, .tmp 5])
theorem e57 : EntryOk Go.Proofs.Try.prog E57 := ⟨Go.Proofs.Try.f57, Go.Proofs.Try.func57, n57, a57, Go.Proofs.Try.ntmps57, r57⟩
/-! reedpen/octet.Row -/
def A58 : ACode :=
 (.seq
 (.reg [
 ⟨(some 4), .box (.t 0) 22, none⟩,
 ⟨(some 5), .box (.t 1) 3, none⟩,
 ⟨(some 7), .box (.t 3) 3, none⟩,
 ⟨(some 8), .mov (.k (.vec true [])), none⟩,
 ⟨(some 9), .mov (.k (.bool false)), none⟩])
 (.seq
 (.seq
 (.reg [
 ⟨(some 10), .load 1 false (.t 7), none⟩])
 (.block 0
 (.seq
 (.seq
 (.reg [
 ⟨(some 12), .bin .eql (.t 10) (.k (.int .i64 1)), none⟩,
 ⟨(some 11), .mov (.t 12), none⟩])
 (.cond (.t 11)
 .skip
 (.seq
 (.reg [
 ⟨(some 13), .bin .eql (.t 10) (.k (.int .i64 2)), none⟩,
 ⟨(some 11), .mov (.t 13), none⟩])
 (.cond (.t 11)
 .skip
 (.reg [
 ⟨(some 14), .bin .eql (.t 10) (.k (.int .i64 4)), none⟩,
 ⟨(some 11), .mov (.t 14), none⟩])))))
 (.cond (.t 11)
 .skip
 (.seq
 (.reg [
 ⟨(some 8), .mov (.k (.vec true [])), none⟩,
 ⟨(some 9), .mov (.k (.bool false)), none⟩])
 .ret)))))
 (.seq
 (.seq
 (.reg [
 ⟨(some 15), .mov (.t 2), none⟩,
 ⟨(some 16), .bin .lss (.t 15) (.k (.int .i64 0)), none⟩,
 ⟨(some 17), .mov (.t 16), none⟩,
 ⟨(some 18), .mov (.t 2), (some (17, false))⟩,
 ⟨(some 19), .load 1 false (.t 4), (some (17, false))⟩,
 ⟨(some 20), .len false (.t 19), (some (17, false))⟩,
 ⟨(some 21), .bin .gtr (.t 18) (.t 20), (some (17, false))⟩,
 ⟨(some 22), .pick (.t 17) (.k (.bool true)) (.t 21), none⟩,
 ⟨(some 23), .mov (.t 22), none⟩,
 ⟨(some 24), .load 1 false (.t 4), (some (23, false))⟩,
 ⟨(some 25), .load 1 false (.t 5), (some (23, false))⟩,
 ⟨(some 26), .mov (.t 2), (some (23, false))⟩,
 ⟨(some 27), .load 1 false (.t 7), (some (23, false))⟩,
 ⟨(some 28), .bin .mul (.t 26) (.t 27), (some (23, false))⟩,
 ⟨(some 29), .call 71 [(.t 24), (.t 25), (.t 28)], (some (23, false))⟩,
 ⟨(some 30), .un .not (.t 29), (some (23, false))⟩,
 ⟨(some 31), .pick (.t 23) (.k (.bool true)) (.t 30), none⟩])
 (.cond (.t 31)
 (.seq
 (.reg [
 ⟨(some 8), .mov (.k (.vec true [])), none⟩,
 ⟨(some 9), .mov (.k (.bool false)), none⟩])
 .ret)
 .skip))
 (.seq
 (.reg [
 ⟨(some 32), .mov (.t 2), none⟩,
 ⟨(some 33), .mkfn (.func 79) [] [(.t 4), (.t 5), (.t 7)], none⟩,
 ⟨(some 34), .call 78 [(.t 32), (.t 33)], none⟩,
 ⟨(some 8), .mov (.t 34), none⟩,
 ⟨(some 9), .mov (.k (.bool true)), none⟩])
 .ret))))
theorem a58 : Go.Proofs.Try.f58.body.bind (comp Go.Proofs.Try.prog) = some A58 := by kernel_rfl
theorem r58 : compRVs Go.Proofs.Try.prog Go.Proofs.Try.f58.results.toList = some [.tmp 8, .tmp 9] := by kernel_rfl
theorem n58 : (Go.Proofs.Try.f58.name == "runtime.NumGoroutine") = false := by decide +kernel
def E58 : Nat × ACode × Nat × List RV := (58, A58, 35, [.tmp 8, .tmp 9])
theorem e58 : EntryOk Go.Proofs.Try.prog E58 := ⟨Go.Proofs.Try.f58, Go.Proofs.Try.func58, n58, a58, Go.Proofs.Try.ntmps58, r58⟩
/-! reedpen/cover.classed -/
def A59 : ACode :=
 (.seq
 (.reg [
 ⟨(some 3), .box (.t 1) 48, none⟩,
 ⟨(some 4), .mov (.k (.vec true [])), none⟩])
 (.seq
 (.seq
 (.reg [
 ⟨(some 6), .fld 2 (.t 3), none⟩,
 ⟨(some 7), .load 1 false (.t 6), none⟩,
 ⟨(some 8), .bin .eql (.t 7) (.k (.int .i64 0)), none⟩])
 (.cond (.t 8)
 (.seq
 (.reg [
 ⟨(some 9), .mov (.t 0), none⟩,
 ⟨(some 4), .mov (.t 9), none⟩])
 .ret)
 .skip))
 (.seq
 (.seq
 (.reg [
 ⟨(some 10), .mov (.t 0), none⟩,
 ⟨(some 11), .len false (.t 10), none⟩,
 ⟨(some 5), .mov (.t 11), none⟩])
 (.seq
 (.regd [
 ⟨⟨(some 12), .mov (.t 5), none⟩, 0, [], false⟩,
 ⟨⟨(some 13), .bin .gtr (.t 12) (.k (.int .i64 0)), none⟩, 1, [], false⟩,
 ⟨⟨(some 14), .mov (.t 13), none⟩, 2, [], false⟩,
 ⟨⟨(some 15), .mov (.t 0), (some (14, true))⟩, 3, [], false⟩,
 ⟨⟨(some 16), .mov (.t 5), (some (14, true))⟩, 4, [], false⟩,
 ⟨⟨(some 17), .bin .sub (.t 16) (.k (.int .i64 1)), (some (14, true))⟩, 5, [], false⟩,
 ⟨⟨(some 18), .idx 3 (.t 15) (.t 17), (some (14, true))⟩, 6, [], false⟩,
 ⟨⟨(some 19), .fld 1 (.t 18), (some (14, true))⟩, 7, [], false⟩,
 ⟨⟨(some 20), .load 1 false (.t 19), (some (14, true))⟩, 8, [], false⟩,
 ⟨⟨(some 21), .bin .add (.t 20) (.k (.int .i64 1)), (some (14, true))⟩, 9, [], false⟩,
 ⟨⟨(some 22), .fld 0 (.t 3), (some (14, true))⟩, 10, [], false⟩,
 ⟨⟨(some 23), .load 1 false (.t 22), (some (14, true))⟩, 11, [], false⟩,
 ⟨⟨(some 24), .bin .eql (.t 21) (.t 23), (some (14, true))⟩, 12, [], false⟩,
 ⟨⟨(some 25), .pick (.t 14) (.t 24) (.k (.bool false)), none⟩, 13, [], false⟩,
 ⟨⟨(some 26), .mov (.t 25), none⟩, 14, [], false⟩,
 ⟨⟨(some 27), .mov (.t 0), (some (26, true))⟩, 15, [], false⟩,
 ⟨⟨(some 28), .mov (.t 5), (some (26, true))⟩, 16, [], false⟩,
 ⟨⟨(some 29), .bin .sub (.t 28) (.k (.int .i64 1)), (some (26, true))⟩, 17, [], false⟩,
 ⟨⟨(some 30), .idx 3 (.t 27) (.t 29), (some (26, true))⟩, 18, [], false⟩,
 ⟨⟨(some 31), .fld 2 (.t 30), (some (26, true))⟩, 19, [], false⟩,
 ⟨⟨(some 32), .load 1 false (.t 31), (some (26, true))⟩, 20, [], false⟩,
 ⟨⟨(some 33), .fld 2 (.t 3), (some (26, true))⟩, 21, [], false⟩,
 ⟨⟨(some 34), .load 1 false (.t 33), (some (26, true))⟩, 22, [], false⟩,
 ⟨⟨(some 35), .bin .eql (.t 32) (.t 34), (some (26, true))⟩, 23, [], false⟩,
 ⟨⟨(some 36), .pick (.t 26) (.t 35) (.k (.bool false)), none⟩, 24, [], false⟩])
 (.cond (.t 36)
 (.seq
 (.reg [
 ⟨(some 37), .mov (.t 0), none⟩,
 ⟨(some 38), .mov (.t 5), none⟩,
 ⟨(some 39), .bin .sub (.t 38) (.k (.int .i64 1)), none⟩,
 ⟨(some 40), .fld 1 (.t 3), none⟩,
 ⟨(some 41), .load 1 false (.t 40), none⟩,
 ⟨(some 42), .idx 3 (.t 37) (.t 39), none⟩,
 ⟨(some 43), .fld 1 (.t 42), none⟩,
 ⟨none, .store 1 (.t 43) (.t 41), none⟩])
 (.seq
 (.reg [
 ⟨(some 44), .mov (.t 0), none⟩,
 ⟨(some 4), .mov (.t 44), none⟩])
 .ret))
 .skip)))
 (.seq
 (.reg [
 ⟨(some 45), .mov (.t 0), none⟩,
 ⟨(some 46), .load 3 true (.t 3), none⟩,
 ⟨(some 47), .lits 3 48 [(.t 46)], none⟩,
 ⟨(some 48), .app 3 24 48 (.t 45) (.t 47), none⟩,
 ⟨(some 4), .mov (.t 48), none⟩])
 .ret))))
theorem a59 : Go.Proofs.Try.f59.body.bind (comp Go.Proofs.Try.prog) = some A59 := by kernel_rfl
theorem r59 : compRVs Go.Proofs.Try.prog Go.Proofs.Try.f59.results.toList = some [.tmp 4] := by kernel_rfl
theorem n59 : (Go.Proofs.Try.f59.name == "runtime.NumGoroutine") = false := by decide +kernel
def E59 : Nat × ACode × Nat × List RV := (59, A59, 49, [.tmp 4])
theorem e59 : EntryOk Go.Proofs.Try.prog E59 := ⟨Go.Proofs.Try.f59, Go.Proofs.Try.func59, n59, a59, Go.Proofs.Try.ntmps59, r59⟩
/-! reedpen/cover.triples -/
def A60 : ACode :=
 (.seq
 (.reg [
 ⟨(some 4), .mov (.k (.vec true [])), none⟩,
 ⟨(some 5), .mov (.k (.bool false)), none⟩])
 (.seq
 (.reg [
 ⟨(some 15), .mov (.t 0), none⟩,
 ⟨(some 16), .mov (.t 1), none⟩,
 ⟨(some 17), .bin .add (.t 16) (.k (.int .i64 2)), none⟩,
 ⟨(some 18), .call 57 [(.t 15), (.t 17)], none⟩,
 ⟨(some 14), .mov (.t 18), none⟩,
 ⟨(some 19), .ext 0 (.t 14), none⟩,
 ⟨(some 20), .ext 1 (.t 14), none⟩,
 ⟨(some 6), .mov (.t 19), none⟩,
 ⟨(some 7), .mov (.t 20), none⟩])
 (.seq
 (.reg [
 ⟨(some 22), .mov (.t 0), none⟩,
 ⟨(some 23), .mov (.t 1), none⟩,
 ⟨(some 24), .bin .add (.t 23) (.k (.int .i64 4)), none⟩,
 ⟨(some 25), .mov (.t 6), none⟩,
 ⟨(some 26), .bin .mul (.k (.int .i64 3)) (.t 25), none⟩,
 ⟨(some 27), .call 58 [(.t 22), (.t 24), (.t 26), (.k (.int .i64 2))], none⟩,
 ⟨(some 21), .mov (.t 27), none⟩,
 ⟨(some 28), .ext 0 (.t 21), none⟩,
 ⟨(some 29), .ext 1 (.t 21), none⟩,
 ⟨(some 8), .mov (.t 28), none⟩,
 ⟨(some 9), .mov (.t 29), none⟩])
 (.seq
 (.seq
 (.reg [
 ⟨(some 30), .mov (.t 7), none⟩,
 ⟨(some 31), .un .not (.t 30), none⟩,
 ⟨(some 32), .mov (.t 31), none⟩,
 ⟨(some 33), .mov (.t 9), (some (32, false))⟩,
 ⟨(some 34), .un .not (.t 33), (some (32, false))⟩,
 ⟨(some 35), .pick (.t 32) (.k (.bool true)) (.t 34), none⟩])
 (.cond (.t 35)
 (.seq
 (.reg [
 ⟨(some 4), .mov (.k (.vec true [])), none⟩,
 ⟨(some 5), .mov (.k (.bool false)), none⟩])
 .ret)
 .skip))
 (.seq
 (.reg [
 ⟨(some 10), .mov (.k (.vec true [])), none⟩])
 (.seq
 (.reg [
 ⟨(some 11), .mov (.k (.int .i64 (-1))), none⟩])
 (.seq
 (.seq
 (.reg [
 ⟨(some 12), .mov (.k (.int .i64 0)), none⟩])
 (.block 0
 (.loop
 (.seq
 (.seq
 (.reg [
 ⟨(some 36), .mov (.t 12), none⟩,
 ⟨(some 37), .mov (.t 8), none⟩,
 ⟨(some 38), .len false (.t 37), none⟩,
 ⟨(some 39), .bin .lss (.t 36) (.t 38), none⟩])
 (.cond (.t 39)
 .skip
 (.exit 0)))
 (.seq
 (.block 1
 (.seq
 (.regd [
 ⟨⟨(some 42), .mov (.t 8), none⟩, 0, [], false⟩,
 ⟨⟨(some 43), .mov (.t 12), none⟩, 1, [], false⟩,
 ⟨⟨(some 44), .idx 1 (.t 42) (.t 43), none⟩, 2, [], true⟩,
 ⟨⟨(some 45), .load 1 false (.t 44), none⟩, 3, [], true⟩,
 ⟨⟨(some 46), .mov (.t 8), none⟩, 4, [], false⟩,
 ⟨⟨(some 47), .mov (.t 12), none⟩, 5, [], false⟩,
 ⟨⟨(some 48), .bin .add (.t 47) (.k (.int .i64 1)), none⟩, 6, [], false⟩,
 ⟨⟨(some 49), .idx 1 (.t 46) (.t 48), none⟩, 7, [], true⟩,
 ⟨⟨(some 50), .load 1 false (.t 49), none⟩, 8, [], true⟩,
 ⟨⟨(some 51), .mov (.t 8), none⟩, 9, [], false⟩,
 ⟨⟨(some 52), .mov (.t 12), none⟩, 10, [], false⟩,
 ⟨⟨(some 53), .bin .add (.t 52) (.k (.int .i64 2)), none⟩, 11, [], false⟩,
 ⟨⟨(some 54), .idx 1 (.t 51) (.t 53), none⟩, 12, [], true⟩,
 ⟨⟨(some 55), .load 1 false (.t 54), none⟩, 13, [], true⟩,
 ⟨⟨(some 56), .build [(.int .i64 0), (.int .i64 0), (.int .i64 0)] [(0, 1, (.t 45)), (1, 1, (.t 50)), (2, 1, (.t 55))], none⟩, 14, [], false⟩,
 ⟨⟨(some 13), .new [(.int .i64 0), (.int .i64 0), (.int .i64 0)] 97, none⟩, 15, [], false⟩,
 ⟨⟨none, .store 3 (.t 13) (.t 56), none⟩, 16, [15, 14, 3, 2, 0, 1, 8, 7, 4, 6, 5, 13, 12, 9, 11, 10], false⟩])
 (.seq
 (.seq
 (.reg [
 ⟨(some 57), .idxa 1 3 (.t 13) (.k (.int .i64 0)), none⟩,
 ⟨(some 58), .load 1 false (.t 57), none⟩,
 ⟨(some 59), .mov (.t 11), none⟩,
 ⟨(some 60), .bin .leq (.t 58) (.t 59), none⟩,
 ⟨(some 61), .mov (.t 60), none⟩,
 ⟨(some 62), .idxa 1 3 (.t 13) (.k (.int .i64 1)), (some (61, false))⟩,
 ⟨(some 63), .load 1 false (.t 62), (some (61, false))⟩,
 ⟨(some 64), .idxa 1 3 (.t 13) (.k (.int .i64 0)), (some (61, false))⟩,
 ⟨(some 65), .load 1 false (.t 64), (some (61, false))⟩,
 ⟨(some 66), .bin .lss (.t 63) (.t 65), (some (61, false))⟩,
 ⟨(some 67), .pick (.t 61) (.k (.bool true)) (.t 66), none⟩])
 (.cond (.t 67)
 (.seq
 (.reg [
 ⟨(some 4), .mov (.k (.vec true [])), none⟩,
 ⟨(some 5), .mov (.k (.bool false)), none⟩])
 .ret)
 .skip))
 (.seq
 (.reg [
 ⟨(some 68), .idxa 1 3 (.t 13) (.k (.int .i64 1)), none⟩,
 ⟨(some 69), .load 1 false (.t 68), none⟩,
 ⟨(some 11), .mov (.t 69), none⟩])
 (.reg [
 ⟨(some 70), .mov (.t 10), none⟩,
 ⟨(some 71), .load 3 true (.t 13), none⟩,
 ⟨(some 72), .lits 3 97 [(.t 71)], none⟩,
 ⟨(some 73), .app 3 24 97 (.t 70) (.t 72), none⟩,
 ⟨(some 10), .mov (.t 73), none⟩])))))
 (.reg [
 ⟨(some 40), .mov (.t 12), none⟩,
 ⟨(some 41), .bin .add (.t 40) (.k (.int .i64 3)), none⟩,
 ⟨(some 12), .mov (.t 41), none⟩]))))))
 (.seq
 (.reg [
 ⟨(some 74), .mov (.t 10), none⟩,
 ⟨(some 4), .mov (.t 74), none⟩,
 ⟨(some 5), .mov (.k (.bool true)), none⟩])
 .ret))))))))
theorem a60 : Go.Proofs.Try.f60.body.bind (comp Go.Proofs.Try.prog) = some A60 := by kernel_rfl
theorem r60 : compRVs Go.Proofs.Try.prog Go.Proofs.Try.f60.results.toList = some [.tmp 4, .tmp 5] := by kernel_rfl
theorem n60 : (Go.Proofs.Try.f60.name == "runtime.NumGoroutine") = false := by decide +kernel
def E60 : Nat × ACode × Nat × List RV := (60, A60, 75, [.tmp 4, .tmp 5])
theorem e60 : EntryOk Go.Proofs.Try.prog E60 := ⟨Go.Proofs.Try.f60, Go.Proofs.Try.func60, n60, a60, Go.Proofs.Try.ntmps60, r60⟩
/-! reedpen/cover.joined -/
def A61 : ACode :=
 (.seq
 (.reg [
 ⟨(some 3), .box (.t 1) 38, none⟩,
 ⟨(some 4), .mov (.k (.vec true [])), none⟩])
 (.seq
 (.seq
 (.reg [
 ⟨(some 6), .mov (.t 0), none⟩,
 ⟨(some 7), .len false (.t 6), none⟩,
 ⟨(some 5), .mov (.t 7), none⟩])
 (.seq
 (.regd [
 ⟨⟨(some 8), .mov (.t 5), none⟩, 0, [], false⟩,
 ⟨⟨(some 9), .bin .gtr (.t 8) (.k (.int .i64 0)), none⟩, 1, [], false⟩,
 ⟨⟨(some 10), .mov (.t 9), none⟩, 2, [], false⟩,
 ⟨⟨(some 11), .mov (.t 0), (some (10, true))⟩, 3, [], false⟩,
 ⟨⟨(some 12), .mov (.t 5), (some (10, true))⟩, 4, [], false⟩,
 ⟨⟨(some 13), .bin .sub (.t 12) (.k (.int .i64 1)), (some (10, true))⟩, 5, [], false⟩,
 ⟨⟨(some 14), .idx 2 (.t 11) (.t 13), (some (10, true))⟩, 6, [], false⟩,
 ⟨⟨(some 15), .fld 1 (.t 14), (some (10, true))⟩, 7, [], false⟩,
 ⟨⟨(some 16), .load 1 false (.t 15), (some (10, true))⟩, 8, [], false⟩,
 ⟨⟨(some 17), .bin .add (.t 16) (.k (.int .i64 1)), (some (10, true))⟩, 9, [], false⟩,
 ⟨⟨(some 18), .fld 0 (.t 3), (some (10, true))⟩, 10, [], false⟩,
 ⟨⟨(some 19), .load 1 false (.t 18), (some (10, true))⟩, 11, [], false⟩,
 ⟨⟨(some 20), .bin .eql (.t 17) (.t 19), (some (10, true))⟩, 12, [], false⟩,
 ⟨⟨(some 21), .pick (.t 10) (.t 20) (.k (.bool false)), none⟩, 13, [], false⟩])
 (.cond (.t 21)
 (.seq
 (.reg [
 ⟨(some 22), .mov (.t 0), none⟩,
 ⟨(some 23), .mov (.t 5), none⟩,
 ⟨(some 24), .bin .sub (.t 23) (.k (.int .i64 1)), none⟩,
 ⟨(some 25), .fld 1 (.t 3), none⟩,
 ⟨(some 26), .load 1 false (.t 25), none⟩,
 ⟨(some 27), .idx 2 (.t 22) (.t 24), none⟩,
 ⟨(some 28), .fld 1 (.t 27), none⟩,
 ⟨none, .store 1 (.t 28) (.t 26), none⟩])
 (.seq
 (.reg [
 ⟨(some 29), .mov (.t 0), none⟩,
 ⟨(some 4), .mov (.t 29), none⟩])
 .ret))
 .skip)))
 (.seq
 (.reg [
 ⟨(some 30), .mov (.t 0), none⟩,
 ⟨(some 31), .load 2 true (.t 3), none⟩,
 ⟨(some 32), .lits 2 38 [(.t 31)], none⟩,
 ⟨(some 33), .app 2 16 38 (.t 30) (.t 32), none⟩,
 ⟨(some 4), .mov (.t 33), none⟩])
 .ret)))
theorem a61 : Go.Proofs.Try.f61.body.bind (comp Go.Proofs.Try.prog) = some A61 := by kernel_rfl
theorem r61 : compRVs Go.Proofs.Try.prog Go.Proofs.Try.f61.results.toList = some [.tmp 4] := by kernel_rfl
theorem n61 : (Go.Proofs.Try.f61.name == "runtime.NumGoroutine") = false := by decide +kernel
def E61 : Nat × ACode × Nat × List RV := (61, A61, 34, [.tmp 4])
theorem e61 : EntryOk Go.Proofs.Try.prog E61 := ⟨Go.Proofs.Try.f61, Go.Proofs.Try.func61, n61, a61, Go.Proofs.Try.ntmps61, r61⟩
/-! reedpen/cover.Both$1 -/
def A62 : ACode :=
 (.seq
 (.reg [
 ⟨(some 5), .mov (.t 0), none⟩,
 ⟨(some 6), .mov (.t 1), none⟩,
 ⟨(some 7), .bin .leq (.t 5) (.t 6), none⟩])
 (.cond (.t 7)
 (.reg [
 ⟨(some 8), .load 1 false (.t 2), none⟩,
 ⟨(some 9), .mov (.t 0), none⟩,
 ⟨(some 10), .mov (.t 1), none⟩,
 ⟨(some 11), .build [(.int .i64 0), (.int .i64 0)] [(0, 1, (.t 9)), (1, 1, (.t 10))], none⟩,
 ⟨(some 12), .call 61 [(.t 8), (.t 11)], none⟩,
 ⟨none, .store 1 (.t 2) (.t 12), none⟩])
 .skip))
theorem a62 : Go.Proofs.Try.f62.body.bind (comp Go.Proofs.Try.prog) = some A62 := by kernel_rfl
theorem r62 : compRVs Go.Proofs.Try.prog Go.Proofs.Try.f62.results.toList = some [] := by kernel_rfl
theorem n62 : (Go.Proofs.Try.f62.name == "runtime.NumGoroutine") = false := by decide +kernel
def E62 : Nat × ACode × Nat × List RV := (62, A62, 13, [])
theorem e62 : EntryOk Go.Proofs.Try.prog E62 := ⟨Go.Proofs.Try.f62, Go.Proofs.Try.func62, n62, a62, Go.Proofs.Try.ntmps62, r62⟩
/-! reedpen/context.table -/
def A63 : ACode :=
 (.seq
 (.reg [
 ⟨(some 6), .new [(.vec true [])] 53, none⟩,
 ⟨(some 7), .new [(.bool false)] 4, none⟩])
 (.seq
 (.dfr 9 81 [(.t 6), (.t 7)])
 (.seq
 (.reg [
 ⟨(some 10), .mov (.t 0), none⟩,
 ⟨(some 11), .mov (.t 1), none⟩,
 ⟨(some 12), .build [(.vec true []), (.int .i64 0)] [(0, 1, (.t 10)), (1, 1, (.t 11))], none⟩,
 ⟨(some 13), .box (.t 12) 123, none⟩,
 ⟨(some 8), .mov (.t 13), none⟩])
 (.seq
 (.seq
 (.reg [
 ⟨(some 14), .mov (.t 8), none⟩,
 ⟨(some 15), .call 82 [(.t 14)], none⟩])
 (.block 0
 (.seq
 (.reg [
 ⟨(some 17), .bin .eql (.t 15) (.k (.int .i64 1)), none⟩,
 ⟨(some 16), .mov (.t 17), none⟩])
 (.cond (.t 16)
 (.seq
 (.reg [
 ⟨(some 18), .mov (.t 8), none⟩,
 ⟨(some 19), .mov (.t 1), none⟩,
 ⟨(some 20), .mov (.t 2), none⟩,
 ⟨(some 21), .call 83 [(.t 18), (.t 19), (.t 20)], none⟩,
 ⟨none, .store 1 (.t 6) (.t 21), none⟩,
 ⟨none, .store 1 (.t 7) (.k (.bool true)), none⟩])
 .ret)
 (.seq
 (.reg [
 ⟨(some 23), .bin .eql (.t 15) (.k (.int .i64 2)), none⟩,
 ⟨(some 22), .mov (.t 23), none⟩])
 (.cond (.t 22)
 (.seq
 (.reg [
 ⟨(some 24), .mov (.t 8), none⟩,
 ⟨(some 25), .mov (.t 1), none⟩,
 ⟨(some 26), .mov (.t 2), none⟩,
 ⟨(some 27), .call 84 [(.t 24), (.t 25), (.t 26)], none⟩,
 ⟨none, .store 1 (.t 6) (.t 27), none⟩,
 ⟨none, .store 1 (.t 7) (.k (.bool true)), none⟩])
 .ret)
 (.seq
 (.reg [
 ⟨(some 29), .bin .eql (.t 15) (.k (.int .i64 3)), none⟩,
 ⟨(some 28), .mov (.t 29), none⟩])
 (.cond (.t 28)
 (.seq
 (.reg [
 ⟨(some 30), .mov (.t 8), none⟩,
 ⟨(some 31), .mov (.t 1), none⟩,
 ⟨(some 32), .mov (.t 2), none⟩,
 ⟨(some 33), .call 85 [(.t 30), (.t 31), (.t 32)], none⟩,
 ⟨none, .store 1 (.t 6) (.t 33), none⟩,
 ⟨none, .store 1 (.t 7) (.k (.bool true)), none⟩])
 .ret)
 .skip))))))))
 (.seq
 (.reg [
 ⟨none, .store 1 (.t 6) (.k (.vec true [])), none⟩,
 ⟨none, .store 1 (.t 7) (.k (.bool false)), none⟩])
 .ret)))))
theorem a63 : Go.Proofs.Try.f63.body.bind (comp Go.Proofs.Try.prog) = some A63 := by kernel_rfl
theorem r63 : compRVs Go.Proofs.Try.prog Go.Proofs.Try.f63.results.toList = some [.cell 6 1 false, .cell 7 1 false] := by kernel_rfl
theorem n63 : (Go.Proofs.Try.f63.name == "runtime.NumGoroutine") = false := by decide +kernel
def E63 : Nat × ACode × Nat × List RV := (63, A63, 34, [.cell 6 1 false, .cell 7 1 false])
theorem e63 : EntryOk Go.Proofs.Try.prog E63 := ⟨Go.Proofs.Try.f63, Go.Proofs.Try.func63, n63, a63, Go.Proofs.Try.ntmps63, r63⟩
/-! reedpen/reedpenref11.SameSets -/
def A69 : ACode :=
 (.seq
 (.reg [
 ⟨(some 4), .mov (.k (.bool false)), none⟩])
 (.seq
 (.seq
 (.reg [
 ⟨(some 6), .mov (.t 0), none⟩,
 ⟨(some 7), .len false (.t 6), none⟩,
 ⟨(some 8), .mov (.t 1), none⟩,
 ⟨(some 9), .len false (.t 8), none⟩,
 ⟨(some 10), .bin .neq (.t 7) (.t 9), none⟩])
 (.cond (.t 10)
 (.seq
 (.reg [
 ⟨(some 4), .mov (.k (.bool false)), none⟩])
 .ret)
 .skip))
 (.seq
 (.seq
 (.reg [
 ⟨(some 5), .mov (.k (.int .i64 0)), none⟩])
 (.block 0
 (.loop
 (.seq
 (.seq
 (.reg [
 ⟨(some 11), .mov (.t 5), none⟩,
 ⟨(some 12), .mov (.t 0), none⟩,
 ⟨(some 13), .len false (.t 12), none⟩,
 ⟨(some 14), .bin .lss (.t 11) (.t 13), none⟩])
 (.cond (.t 14)
 .skip
 (.exit 0)))
 (.seq
 (.block 1
 (.seq
 (.regd [
 ⟨⟨(some 17), .mov (.t 0), none⟩, 0, [], false⟩,
 ⟨⟨(some 18), .mov (.t 5), none⟩, 1, [], false⟩,
 ⟨⟨(some 19), .idx 2 (.t 17) (.t 18), none⟩, 2, [], false⟩,
 ⟨⟨(some 20), .fld 1 (.t 19), none⟩, 3, [], false⟩,
 ⟨⟨(some 21), .load 1 false (.t 20), none⟩, 4, [], false⟩,
 ⟨⟨(some 22), .mov (.t 1), none⟩, 5, [], false⟩,
 ⟨⟨(some 23), .mov (.t 5), none⟩, 6, [], false⟩,
 ⟨⟨(some 24), .idx 2 (.t 22) (.t 23), none⟩, 7, [], false⟩,
 ⟨⟨(some 25), .fld 1 (.t 24), none⟩, 8, [], false⟩,
 ⟨⟨(some 26), .load 1 false (.t 25), none⟩, 9, [], false⟩,
 ⟨⟨(some 27), .eqb true (.t 21) (.t 26), none⟩, 10, [], false⟩,
 ⟨⟨(some 28), .mov (.t 27), none⟩, 11, [], false⟩,
 ⟨⟨(some 29), .mov (.t 0), (some (28, false))⟩, 12, [], false⟩,
 ⟨⟨(some 30), .mov (.t 5), (some (28, false))⟩, 13, [], false⟩,
 ⟨⟨(some 31), .idx 2 (.t 29) (.t 30), (some (28, false))⟩, 14, [], false⟩,
 ⟨⟨(some 32), .fld 0 (.t 31), (some (28, false))⟩, 15, [], false⟩,
 ⟨⟨(some 33), .load 1 false (.t 32), (some (28, false))⟩, 16, [], false⟩,
 ⟨⟨(some 34), .mov (.t 1), (some (28, false))⟩, 17, [], false⟩,
 ⟨⟨(some 35), .mov (.t 5), (some (28, false))⟩, 18, [], false⟩,
 ⟨⟨(some 36), .idx 2 (.t 34) (.t 35), (some (28, false))⟩, 19, [], false⟩,
 ⟨⟨(some 37), .fld 0 (.t 36), (some (28, false))⟩, 20, [], false⟩,
 ⟨⟨(some 38), .load 1 false (.t 37), (some (28, false))⟩, 21, [], false⟩,
 ⟨⟨(some 39), .call 22 [(.t 33), (.t 38)], (some (28, false))⟩, 22, [16, 15, 14, 12, 11, 10, 4, 3, 2, 0, 1, 9, 8, 7, 5, 6, 13, 21, 20, 19, 17, 18], false⟩,
 ⟨⟨(some 40), .un .not (.t 39), (some (28, false))⟩, 23, [], false⟩,
 ⟨⟨(some 41), .pick (.t 28) (.k (.bool true)) (.t 40), none⟩, 24, [], false⟩])
 (.cond (.t 41)
 (.seq
 (.reg [
 ⟨(some 4), .mov (.k (.bool false)), none⟩])
 .ret)
 .skip)))
 (.reg [
 ⟨(some 15), .mov (.t 5), none⟩,
 ⟨(some 16), .bin .add (.t 15) (.k (.int .i64 1)), none⟩,
 ⟨(some 5), .mov (.t 16), none⟩]))))))
 (.seq
 (.reg [
 ⟨(some 4), .mov (.k (.bool true)), none⟩])
 .ret))))
theorem a69 : Go.Proofs.Try.f69.body.bind (comp Go.Proofs.Try.prog) = some A69 := by kernel_rfl
theorem r69 : compRVs Go.Proofs.Try.prog Go.Proofs.Try.f69.results.toList = some [.tmp 4] := by kernel_rfl
theorem n69 : (Go.Proofs.Try.f69.name == "runtime.NumGoroutine") = false := by decide +kernel
def E69 : Nat × ACode × Nat × List RV := (69, A69, 42, [.tmp 4])
theorem e69 : EntryOk Go.Proofs.Try.prog E69 := ⟨Go.Proofs.Try.f69, Go.Proofs.Try.func69, n69, a69, Go.Proofs.Try.ntmps69, r69⟩
/-! reedpen/octet.Within -/
def A71 : ACode :=
 (.seq
 (.reg [
 ⟨(some 6), .mov (.k (.bool false)), none⟩])
 (.seq
 (.reg [
 ⟨(some 7), .mov (.t 1), none⟩,
 ⟨(some 8), .bin .geq (.t 7) (.k (.int .i64 0)), none⟩,
 ⟨(some 9), .mov (.t 8), none⟩,
 ⟨(some 10), .mov (.t 2), (some (9, true))⟩,
 ⟨(some 11), .bin .geq (.t 10) (.k (.int .i64 0)), (some (9, true))⟩,
 ⟨(some 12), .pick (.t 9) (.t 11) (.k (.bool false)), none⟩,
 ⟨(some 13), .mov (.t 12), none⟩,
 ⟨(some 14), .mov (.t 2), (some (13, true))⟩,
 ⟨(some 15), .mov (.t 0), (some (13, true))⟩,
 ⟨(some 16), .len false (.t 15), (some (13, true))⟩,
 ⟨(some 17), .bin .leq (.t 14) (.t 16), (some (13, true))⟩,
 ⟨(some 18), .pick (.t 13) (.t 17) (.k (.bool false)), none⟩,
 ⟨(some 19), .mov (.t 18), none⟩,
 ⟨(some 20), .mov (.t 1), (some (19, true))⟩,
 ⟨(some 21), .mov (.t 0), (some (19, true))⟩,
 ⟨(some 22), .len false (.t 21), (some (19, true))⟩,
 ⟨(some 23), .mov (.t 2), (some (19, true))⟩,
 ⟨(some 24), .bin .sub (.t 22) (.t 23), (some (19, true))⟩,
 ⟨(some 25), .bin .leq (.t 20) (.t 24), (some (19, true))⟩,
 ⟨(some 26), .pick (.t 19) (.t 25) (.k (.bool false)), none⟩,
 ⟨(some 6), .mov (.t 26), none⟩])
 .ret))
theorem a71 : Go.Proofs.Try.f71.body.bind (comp Go.Proofs.Try.prog) = some A71 := by kernel_rfl
theorem r71 : compRVs Go.Proofs.Try.prog Go.Proofs.Try.f71.results.toList = some [.tmp 6] := by kernel_rfl
theorem n71 : (Go.Proofs.Try.f71.name == "runtime.NumGoroutine") = false := by decide +kernel
def E71 : Nat × ACode × Nat × List RV := (71, A71, 27, [.tmp 6])
theorem e71 : EntryOk Go.Proofs.Try.prog E71 := ⟨Go.Proofs.Try.f71, Go.Proofs.Try.func71, n71, a71, Go.Proofs.Try.ntmps71, r71⟩
/-! reedpen/octet.read -/
def A77 : ACode :=
 (.seq
 (.reg [
 ⟨(some 6), .mov (.k (.int .i64 0)), none⟩,
 ⟨(some 7), .mov (.k (.bool false)), none⟩])
 (.seq
 (.seq
 (.reg [
 ⟨(some 8), .mov (.t 0), none⟩,
 ⟨(some 9), .mov (.t 1), none⟩,
 ⟨(some 10), .mov (.t 2), none⟩,
 ⟨(some 11), .call 71 [(.t 8), (.t 9), (.t 10)], none⟩,
 ⟨(some 12), .un .not (.t 11), none⟩])
 (.cond (.t 12)
 (.seq
 (.reg [
 ⟨(some 6), .mov (.k (.int .i64 0)), none⟩,
 ⟨(some 7), .mov (.k (.bool false)), none⟩])
 .ret)
 .skip))
 (.seq
 (.reg [
 ⟨(some 13), .mov (.t 0), none⟩,
 ⟨(some 14), .mov (.t 1), none⟩,
 ⟨(some 15), .mov (.t 1), none⟩,
 ⟨(some 16), .mov (.t 2), none⟩,
 ⟨(some 17), .bin .add (.t 15) (.t 16), none⟩,
 ⟨(some 18), .sl 1 (.t 13) (some (.t 14)) (some (.t 17)) none, none⟩,
 ⟨(some 19), .call 80 [(.t 18)], none⟩,
 ⟨(some 6), .mov (.t 19), none⟩,
 ⟨(some 7), .mov (.k (.bool true)), none⟩])
 .ret)))
theorem a77 : Go.Proofs.Try.f77.body.bind (comp Go.Proofs.Try.prog) = some A77 := by kernel_rfl
theorem r77 : compRVs Go.Proofs.Try.prog Go.Proofs.Try.f77.results.toList = some [.tmp 6, .tmp 7] := by kernel_rfl
theorem n77 : (Go.Proofs.Try.f77.name == "runtime.NumGoroutine") = false := by decide +kernel
def E77 : Nat × ACode × Nat × List RV := (77, A77, 20, [.tmp 6, .tmp 7])
theorem e77 : EntryOk Go.Proofs.Try.prog E77 := ⟨Go.Proofs.Try.f77, Go.Proofs.Try.func77, n77, a77, Go.Proofs.Try.ntmps77, r77⟩
/-! reedpen/octet.many[int] -/
def A78 : ACode :=
 (.seq
 (.reg [
 ⟨(some 4), .mov (.k (.vec true [])), none⟩])
 (.seq
 (.reg [
 ⟨(some 5), .mov (.k (.vec true [])), none⟩])
 (.seq
 (.seq
 (.reg [
 ⟨(some 7), .mov (.t 0), none⟩,
 ⟨(some 8), .mov (.k (.int .i64 0)), none⟩])
 (.block 0
 (.loop
 (.seq
 (.reg [
 ⟨(some 9), .bin .lss (.t 8) (.t 7), none⟩])
 (.seq
 (.cond (.t 9)
 .skip
 (.exit 0))
 (.seq
 (.block 1
 (.seq
 (.reg [
 ⟨(some 10), .mov (.t 8), none⟩,
 ⟨(some 6), .mov (.t 10), none⟩])
 (.reg [
 ⟨(some 11), .mov (.t 5), none⟩,
 ⟨(some 12), .mov (.t 1), none⟩,
 ⟨(some 13), .mov (.t 6), none⟩,
 ⟨(some 14), .callv (.t 12) [(.t 13)], none⟩,
 ⟨(some 15), .lits 1 3 [(.t 14)], none⟩,
 ⟨(some 16), .app 1 8 3 (.t 11) (.t 15), none⟩,
 ⟨(some 5), .mov (.t 16), none⟩])))
 (.reg [
 ⟨(some 17), .bin .add (.t 8) (.k (.int .i64 1)), none⟩,
 ⟨(some 8), .mov (.t 17), none⟩])))))))
 (.seq
 (.reg [
 ⟨(some 18), .mov (.t 5), none⟩,
 ⟨(some 4), .mov (.t 18), none⟩])
 .ret))))
theorem a78 : Go.Proofs.Try.f78.body.bind (comp Go.Proofs.Try.prog) = some A78 := by kernel_rfl
theorem r78 : compRVs Go.Proofs.Try.prog Go.Proofs.Try.f78.results.toList = some [.tmp 4] := by kernel_rfl
theorem n78 : (Go.Proofs.Try.f78.name == "runtime.NumGoroutine") = false := by decide +kernel
def E78 : Nat × ACode × Nat × List RV := (78, A78, 19, [.tmp 4])
theorem e78 : EntryOk Go.Proofs.Try.prog E78 := ⟨Go.Proofs.Try.f78, Go.Proofs.Try.func78, n78, a78, Go.Proofs.Try.ntmps78, r78⟩
/-! reedpen/octet.Row$1 -/
def A79 : ACode :=
 (.seq
 (.reg [
 ⟨(some 5), .mov (.k (.int .i64 0)), none⟩])
 (.seq
 (.reg [
 ⟨(some 6), .load 1 false (.t 1), none⟩,
 ⟨(some 7), .load 1 false (.t 2), none⟩,
 ⟨(some 8), .mov (.t 0), none⟩,
 ⟨(some 9), .load 1 false (.t 3), none⟩,
 ⟨(some 10), .bin .mul (.t 8) (.t 9), none⟩,
 ⟨(some 11), .bin .add (.t 7) (.t 10), none⟩,
 ⟨(some 12), .load 1 false (.t 2), none⟩,
 ⟨(some 13), .mov (.t 0), none⟩,
 ⟨(some 14), .bin .add (.t 13) (.k (.int .i64 1)), none⟩,
 ⟨(some 15), .load 1 false (.t 3), none⟩,
 ⟨(some 16), .bin .mul (.t 14) (.t 15), none⟩,
 ⟨(some 17), .bin .add (.t 12) (.t 16), none⟩,
 ⟨(some 18), .sl 1 (.t 6) (some (.t 11)) (some (.t 17)) none, none⟩,
 ⟨(some 19), .call 80 [(.t 18)], none⟩,
 ⟨(some 5), .mov (.t 19), none⟩])
 .ret))
theorem a79 : Go.Proofs.Try.f79.body.bind (comp Go.Proofs.Try.prog) = some A79 := by kernel_rfl
theorem r79 : compRVs Go.Proofs.Try.prog Go.Proofs.Try.f79.results.toList = some [.tmp 5] := by kernel_rfl
theorem n79 : (Go.Proofs.Try.f79.name == "runtime.NumGoroutine") = false := by decide +kernel
def E79 : Nat × ACode × Nat × List RV := (79, A79, 20, [.tmp 5])
theorem e79 : EntryOk Go.Proofs.Try.prog E79 := ⟨Go.Proofs.Try.f79, Go.Proofs.Try.func79, n79, a79, Go.Proofs.Try.ntmps79, r79⟩
/-! reedpen/octet.number -/
def A80 : ACode :=
 (.seq
 (.reg [
 ⟨(some 2), .mov (.k (.int .i64 0)), none⟩])
 (.seq
 (.reg [
 ⟨(some 3), .mov (.k (.int .i64 0)), none⟩])
 (.seq
 (.seq
 (.reg [
 ⟨(some 6), .mov (.t 0), none⟩,
 ⟨(some 7), .len false (.t 6), none⟩,
 ⟨(some 8), .mov (.k (.int .i64 0)), none⟩])
 (.block 0
 (.loop
 (.seq
 (.reg [
 ⟨(some 9), .bin .lss (.t 8) (.t 7), none⟩])
 (.seq
 (.cond (.t 9)
 .skip
 (.exit 0))
 (.seq
 (.block 1
 (.seq
 (.reg [
 ⟨(some 10), .idx 1 (.t 6) (.t 8), none⟩,
 ⟨(some 11), .load 1 false (.t 10), none⟩,
 ⟨(some 5), .mov (.t 11), none⟩])
 (.reg [
 ⟨(some 12), .mov (.t 3), none⟩,
 ⟨(some 13), .bin .shl (.t 12) (.k (.int .u64 8)), none⟩,
 ⟨(some 14), .mov (.t 5), none⟩,
 ⟨(some 15), .conv .i64 (.t 14), none⟩,
 ⟨(some 16), .bin .or (.t 13) (.t 15), none⟩,
 ⟨(some 3), .mov (.t 16), none⟩])))
 (.reg [
 ⟨(some 17), .bin .add (.t 8) (.k (.int .i64 1)), none⟩,
 ⟨(some 8), .mov (.t 17), none⟩])))))))
 (.seq
 (.reg [
 ⟨(some 18), .mov (.t 3), none⟩,
 ⟨(some 2), .mov (.t 18), none⟩])
 .ret))))
theorem a80 : Go.Proofs.Try.f80.body.bind (comp Go.Proofs.Try.prog) = some A80 := by kernel_rfl
theorem r80 : compRVs Go.Proofs.Try.prog Go.Proofs.Try.f80.results.toList = some [.tmp 2] := by kernel_rfl
theorem n80 : (Go.Proofs.Try.f80.name == "runtime.NumGoroutine") = false := by decide +kernel
def E80 : Nat × ACode × Nat × List RV := (80, A80, 19, [.tmp 2])
theorem e80 : EntryOk Go.Proofs.Try.prog E80 := ⟨Go.Proofs.Try.f80, Go.Proofs.Try.func80, n80, a80, Go.Proofs.Try.ntmps80, r80⟩
/-! reedpen/context.table$1 -/
def A81 : ACode :=
 (.seq
 (.reg [
 ⟨(some 5), .stuck, none⟩,
 ⟨(some 2), .mov (.t 5), none⟩])
 (.seq
 (.reg [
 ⟨(some 6), .mov (.t 2), none⟩,
 ⟨(some 7), .ifnil true (.t 6), none⟩])
 (.cond (.t 7)
 (.seq
 (.seq
 (.reg [
 ⟨(some 9), .mov (.t 2), none⟩,
 ⟨(some 10), .tas 119 (.t 9), none⟩,
 ⟨(some 8), .mov (.t 10), none⟩,
 ⟨(some 11), .ext 0 (.t 8), none⟩,
 ⟨(some 12), .ext 1 (.t 8), none⟩,
 ⟨(some 3), .new [] 119, none⟩,
 ⟨none, .store 0 (.t 3) (.t 11), none⟩,
 ⟨(some 4), .mov (.t 12), none⟩])
 (.seq
 (.reg [
 ⟨(some 13), .mov (.t 4), none⟩,
 ⟨(some 14), .un .not (.t 13), none⟩])
 (.cond (.t 14)
 (.reg [
 ⟨(some 15), .mov (.t 2), none⟩,
 ⟨none, .pan (.t 15), none⟩])
 .skip)))
 (.reg [
 ⟨none, .store 1 (.t 0) (.k (.vec true [])), none⟩,
 ⟨none, .store 1 (.t 1) (.k (.bool false)), none⟩]))
 .skip)))
theorem a81 : Go.Proofs.Try.f81.body.bind (comp Go.Proofs.Try.prog) = some A81 := by kernel_rfl
theorem r81 : compRVs Go.Proofs.Try.prog Go.Proofs.Try.f81.results.toList = some [] := by kernel_rfl
theorem n81 : (Go.Proofs.Try.f81.name == "runtime.NumGoroutine") = false := by decide +kernel
def E81 : Nat × ACode × Nat × List RV := (81, A81, 16, [])
theorem e81 : EntryOk Go.Proofs.Try.prog E81 := ⟨Go.Proofs.Try.f81, Go.Proofs.Try.func81, n81, a81, Go.Proofs.Try.ntmps81, r81⟩
/-! (*reedpen/context.reader).number -/
def A82 : ACode :=
 (.seq
 (.reg [
 ⟨(some 2), .mov (.k (.int .i64 0)), none⟩])
 (.seq
 (.regd [
 ⟨⟨(some 6), .mov (.t 0), none⟩, 0, [], false⟩,
 ⟨⟨(some 7), .nchk (.t 6), none⟩, 1, [], false⟩,
 ⟨⟨(some 8), .fld 0 (.t 7), none⟩, 2, [], false⟩,
 ⟨⟨(some 9), .load 1 false (.t 8), none⟩, 3, [], false⟩,
 ⟨⟨(some 10), .mov (.t 0), none⟩, 4, [], false⟩,
 ⟨⟨(some 11), .nchk (.t 10), none⟩, 5, [], false⟩,
 ⟨⟨(some 12), .fld 1 (.t 11), none⟩, 6, [], false⟩,
 ⟨⟨(some 13), .load 1 false (.t 12), none⟩, 7, [], false⟩,
 ⟨⟨(some 14), .call 57 [(.t 9), (.t 13)], none⟩, 8, [3, 2, 1, 0, 7, 6, 5, 4], false⟩,
 ⟨⟨(some 5), .mov (.t 14), none⟩, 9, [], false⟩,
 ⟨⟨(some 15), .ext 0 (.t 5), none⟩, 10, [], false⟩,
 ⟨⟨(some 16), .ext 1 (.t 5), none⟩, 11, [], false⟩,
 ⟨⟨(some 3), .mov (.t 15), none⟩, 12, [], false⟩,
 ⟨⟨(some 4), .mov (.t 16), none⟩, 13, [], false⟩])
 (.seq
 (.reg [
 ⟨(some 17), .mov (.t 4), none⟩,
 ⟨(some 18), .call 93 [(.t 17)], none⟩])
 (.seq
 (.reg [
 ⟨(some 19), .mov (.t 0), none⟩,
 ⟨(some 20), .nchk (.t 19), none⟩,
 ⟨(some 21), .fld 1 (.t 20), none⟩,
 ⟨(some 22), .load 1 false (.t 21), none⟩,
 ⟨(some 23), .bin .add (.t 22) (.k (.int .i64 2)), none⟩,
 ⟨(some 24), .nchk (.t 19), none⟩,
 ⟨(some 25), .fld 1 (.t 24), none⟩,
 ⟨none, .store 1 (.t 25) (.t 23), none⟩])
 (.seq
 (.reg [
 ⟨(some 26), .mov (.t 3), none⟩,
 ⟨(some 2), .mov (.t 26), none⟩])
 .ret)))))
theorem a82 : Go.Proofs.Try.f82.body.bind (comp Go.Proofs.Try.prog) = some A82 := by kernel_rfl
theorem r82 : compRVs Go.Proofs.Try.prog Go.Proofs.Try.f82.results.toList = some [.tmp 2] := by kernel_rfl
theorem n82 : (Go.Proofs.Try.f82.name == "runtime.NumGoroutine") = false := by decide +kernel
def E82 : Nat × ACode × Nat × List RV := (82, A82, 27, [.tmp 2])
theorem e82 : EntryOk Go.Proofs.Try.prog E82 := ⟨Go.Proofs.Try.f82, Go.Proofs.Try.func82, n82, a82, Go.Proofs.Try.ntmps82, r82⟩
/-! (*reedpen/context.reader).single -/
def A83 : ACode :=
 (.seq
 (.reg [
 ⟨(some 6), .mov (.k (.vec true [])), none⟩])
 (.seq
 (.reg [
 ⟨(some 13), .mov (.t 0), none⟩,
 ⟨(some 14), .mov (.t 1), none⟩,
 ⟨(some 15), .mov (.t 0), none⟩,
 ⟨(some 16), .call 95 [(.t 15), (.k (.int .i64 1))], none⟩,
 ⟨(some 17), .call 94 [(.t 13), (.t 14), (.t 16)], none⟩,
 ⟨(some 18), .idx 2 (.t 17) (.k (.int .i64 0)), none⟩,
 ⟨(some 19), .fld 0 (.t 18), none⟩,
 ⟨(some 20), .load 1 false (.t 19), none⟩,
 ⟨(some 7), .mov (.t 20), none⟩])
 (.seq
 (.reg [
 ⟨(some 21), .mov (.t 0), none⟩,
 ⟨(some 22), .call 82 [(.t 21)], none⟩,
 ⟨(some 8), .mov (.t 22), none⟩])
 (.seq
 (.reg [
 ⟨(some 23), .mov (.t 8), none⟩,
 ⟨(some 24), .mov (.t 7), none⟩,
 ⟨(some 25), .call 28 [(.t 24)], none⟩,
 ⟨(some 26), .bin .eql (.t 23) (.t 25), none⟩,
 ⟨(some 27), .call 93 [(.t 26)], none⟩])
 (.seq
 (.reg [
 ⟨(some 9), .new [(.vec true [])] 87, none⟩])
 (.seq
 (.seq
 (.reg [
 ⟨(some 28), .mov (.t 7), none⟩,
 ⟨(some 29), .len false (.t 28), none⟩,
 ⟨(some 30), .mov (.k (.int .i64 0)), none⟩])
 (.block 0
 (.loop
 (.seq
 (.reg [
 ⟨(some 31), .bin .lss (.t 30) (.t 29), none⟩])
 (.seq
 (.cond (.t 31)
 .skip
 (.exit 0))
 (.seq
 (.block 1
 (.seq
 (.reg [
 ⟨(some 32), .idx 2 (.t 28) (.t 30), none⟩,
 ⟨(some 33), .load 2 true (.t 32), none⟩,
 ⟨(some 11), .new [(.int .i64 0), (.int .i64 0)] 38, none⟩,
 ⟨none, .store 2 (.t 11) (.t 33), none⟩])
 (.seq
 (.reg [
 ⟨(some 34), .fld 0 (.t 11), none⟩,
 ⟨(some 35), .load 1 false (.t 34), none⟩,
 ⟨(some 12), .mov (.t 35), none⟩])
 (.block 2
 (.loop
 (.seq
 (.seq
 (.reg [
 ⟨(some 36), .mov (.t 12), none⟩,
 ⟨(some 37), .fld 1 (.t 11), none⟩,
 ⟨(some 38), .load 1 false (.t 37), none⟩,
 ⟨(some 39), .bin .leq (.t 36) (.t 38), none⟩,
 ⟨(some 40), .mov (.t 39), none⟩,
 ⟨(some 41), .load 1 false (.t 9), (some (40, true))⟩,
 ⟨(some 42), .len false (.t 41), (some (40, true))⟩,
 ⟨(some 43), .mov (.t 8), (some (40, true))⟩,
 ⟨(some 44), .bin .lss (.t 42) (.t 43), (some (40, true))⟩,
 ⟨(some 45), .pick (.t 40) (.t 44) (.k (.bool false)), none⟩])
 (.cond (.t 45)
 .skip
 (.exit 2)))
 (.seq
 (.block 3
 (.reg [
 ⟨(some 48), .load 1 false (.t 9), none⟩,
 ⟨(some 49), .mov (.t 12), none⟩,
 ⟨(some 50), .lits 1 3 [(.t 49)], none⟩,
 ⟨(some 51), .app 1 8 3 (.t 48) (.t 50), none⟩,
 ⟨none, .store 1 (.t 9) (.t 51), none⟩]))
 (.reg [
 ⟨(some 46), .mov (.t 12), none⟩,
 ⟨(some 47), .bin .add (.t 46) (.k (.int .i64 1)), none⟩,
 ⟨(some 12), .mov (.t 47), none⟩]))))))))
 (.reg [
 ⟨(some 52), .bin .add (.t 30) (.k (.int .i64 1)), none⟩,
 ⟨(some 30), .mov (.t 52), none⟩])))))))
 (.seq
 (.reg [
 ⟨(some 53), .mov (.t 0), none⟩,
 ⟨(some 54), .mov (.t 1), none⟩,
 ⟨(some 55), .mov (.t 0), none⟩,
 ⟨(some 56), .mov (.t 8), none⟩,
 ⟨(some 57), .call 95 [(.t 55), (.t 56)], none⟩,
 ⟨(some 58), .mkfn (.func 97) [] [(.t 9)], none⟩,
 ⟨(some 59), .mov (.t 2), none⟩,
 ⟨(some 60), .build [.nilfn, .nilfn, .nilfn, (.bool false)] [(0, 1, (.k (.fn (.func 98) [] []))), (1, 1, (.k (.fn (.func 98) [] []))), (2, 1, (.k (.fn (.func 98) [] []))), (3, 1, (.t 59))], none⟩,
 ⟨(some 61), .call 96 [(.t 53), (.t 54), (.t 57), (.t 58), (.t 60)], none⟩,
 ⟨(some 6), .mov (.t 61), none⟩])
 .ret)))))))
theorem a83 : Go.Proofs.Try.f83.body.bind (comp Go.Proofs.Try.prog) = some A83 := by kernel_rfl
theorem r83 : compRVs Go.Proofs.Try.prog Go.Proofs.Try.f83.results.toList = some [.tmp 6] := by kernel_rfl
theorem n83 : (Go.Proofs.Try.f83.name == "runtime.NumGoroutine") = false := by decide +kernel
def E83 : Nat × ACode × Nat × List RV := (83, A83, 62, [.tmp 6])
theorem e83 : EntryOk Go.Proofs.Try.prog E83 := ⟨Go.Proofs.Try.f83, Go.Proofs.Try.func83, n83, a83, Go.Proofs.Try.ntmps83, r83⟩
/-! (*reedpen/context.reader).classed -/
def A84 : ACode :=
 (.seq
 (.reg [
 ⟨(some 6), .mov (.k (.vec true [])), none⟩])
 (.seq
 (.reg [
 ⟨(some 13), .mov (.t 0), none⟩,
 ⟨(some 14), .mov (.t 1), none⟩,
 ⟨(some 15), .mov (.t 0), none⟩,
 ⟨(some 16), .call 95 [(.t 15), (.k (.int .i64 1))], none⟩,
 ⟨(some 17), .call 94 [(.t 13), (.t 14), (.t 16)], none⟩,
 ⟨(some 18), .idx 2 (.t 17) (.k (.int .i64 0)), none⟩,
 ⟨(some 19), .fld 0 (.t 18), none⟩,
 ⟨(some 20), .load 1 false (.t 19), none⟩,
 ⟨(some 7), .new [(.vec true [])] 24, none⟩,
 ⟨none, .store 1 (.t 7) (.t 20), none⟩])
 (.seq
 (.reg [
 ⟨(some 8), .mov (.k (.vec true [])), none⟩,
 ⟨(some 9), .mov (.k (.vec true [])), none⟩])
 (.seq
 (.seq
 (.reg [
 ⟨(some 21), .mov (.t 2), none⟩])
 (.cond (.t 21)
 (.reg [
 ⟨(some 22), .mov (.t 0), none⟩,
 ⟨(some 23), .mov (.t 1), none⟩,
 ⟨(some 24), .mov (.t 0), none⟩,
 ⟨(some 25), .call 82 [(.t 24)], none⟩,
 ⟨(some 26), .call 99 [(.t 22), (.t 23), (.t 25)], none⟩,
 ⟨(some 8), .mov (.t 26), none⟩])
 .skip))
 (.seq
 (.reg [
 ⟨(some 27), .mov (.t 0), none⟩,
 ⟨(some 28), .mov (.t 1), none⟩,
 ⟨(some 29), .mov (.t 0), none⟩,
 ⟨(some 30), .call 82 [(.t 29)], none⟩,
 ⟨(some 31), .call 99 [(.t 27), (.t 28), (.t 30)], none⟩,
 ⟨(some 10), .new [(.vec true [])] 27, none⟩,
 ⟨none, .store 1 (.t 10) (.t 31), none⟩])
 (.seq
 (.seq
 (.reg [
 ⟨(some 32), .mov (.t 2), none⟩])
 (.cond (.t 32)
 (.reg [
 ⟨(some 33), .mov (.t 0), none⟩,
 ⟨(some 34), .mov (.t 1), none⟩,
 ⟨(some 35), .mov (.t 0), none⟩,
 ⟨(some 36), .call 82 [(.t 35)], none⟩,
 ⟨(some 37), .call 99 [(.t 33), (.t 34), (.t 36)], none⟩,
 ⟨(some 9), .mov (.t 37), none⟩])
 .skip))
 (.seq
 (.reg [
 ⟨(some 11), .mov (.k (.fn (.func 100) [] [])), none⟩])
 (.seq
 (.reg [
 ⟨(some 38), .mkfn (.func 102) [] [(.t 7), (.t 10)], none⟩,
 ⟨(some 12), .mov (.t 38), none⟩])
 (.seq
 (.regd [
 ⟨⟨(some 39), .mov (.t 0), none⟩, 0, [], false⟩,
 ⟨⟨(some 40), .mov (.t 1), none⟩, 1, [], false⟩,
 ⟨⟨(some 41), .mov (.t 0), none⟩, 2, [], false⟩,
 ⟨⟨(some 42), .mov (.t 0), none⟩, 3, [], false⟩,
 ⟨⟨(some 45), .mov (.t 12), none⟩, 6, [], false⟩,
 ⟨⟨(some 46), .mov (.t 11), none⟩, 7, [], false⟩,
 ⟨⟨(some 47), .mov (.t 8), none⟩, 8, [], false⟩,
 ⟨⟨(some 49), .mov (.t 11), none⟩, 10, [], false⟩,
 ⟨⟨(some 50), .load 1 false (.t 10), none⟩, 11, [], true⟩,
 ⟨⟨(some 52), .mov (.t 11), none⟩, 13, [], false⟩,
 ⟨⟨(some 53), .mov (.t 9), none⟩, 14, [], false⟩,
 ⟨⟨(some 55), .mov (.t 2), none⟩, 16, [], false⟩,
 ⟨⟨(some 43), .call 82 [(.t 42)], none⟩, 4, [3], false⟩,
 ⟨⟨(some 44), .call 95 [(.t 41), (.t 43)], none⟩, 5, [2, 4, 3], false⟩,
 ⟨⟨(some 48), .callv (.t 46) [(.t 47)], none⟩, 9, [7, 8, 5, 2, 4, 3], false⟩,
 ⟨⟨(some 51), .callv (.t 49) [(.t 50)], none⟩, 12, [10, 11, 9, 7, 8, 5, 2, 4, 3], false⟩,
 ⟨⟨(some 54), .callv (.t 52) [(.t 53)], none⟩, 15, [13, 14, 12, 10, 11, 9, 7, 8, 5, 2, 4, 3], false⟩,
 ⟨⟨(some 56), .build [.nilfn, .nilfn, .nilfn, (.bool false)] [(0, 1, (.t 48)), (1, 1, (.t 51)), (2, 1, (.t 54)), (3, 1, (.t 55))], none⟩, 17, [], false⟩,
 ⟨⟨(some 57), .call 96 [(.t 39), (.t 40), (.t 44), (.t 45), (.t 56)], none⟩, 18, [0, 1, 5, 2, 4, 3, 6, 17, 9, 7, 8, 12, 10, 11, 15, 13, 14, 16], false⟩,
 ⟨⟨(some 6), .mov (.t 57), none⟩, 19, [], false⟩])
 .ret)))))))))
theorem a84 : Go.Proofs.Try.f84.body.bind (comp Go.Proofs.Try.prog) = some A84 := by kernel_rfl
theorem r84 : compRVs Go.Proofs.Try.prog Go.Proofs.Try.f84.results.toList = some [.tmp 6] := by kernel_rfl
theorem n84 : (Go.Proofs.Try.f84.name == "runtime.NumGoroutine") = false := by decide +kernel
def E84 : Nat × ACode × Nat × List RV := (84, A84, 58, [.tmp 6])
theorem e84 : EntryOk Go.Proofs.Try.prog E84 := ⟨Go.Proofs.Try.f84, Go.Proofs.Try.func84, n84, a84, Go.Proofs.Try.ntmps84, r84⟩
/-! (*reedpen/context.reader).covered -/
def A85 : ACode :=
 (.seq
 (.reg [
 ⟨(some 6), .mov (.k (.vec true [])), none⟩])
 (.seq
 (.reg [
 ⟨(some 7), .new [(.vec true []), (.vec true []), (.vec true []), (.vec true [])] 61, none⟩])
 (.seq
 (.seq
 (.reg [
 ⟨(some 10), .mov (.t 2), none⟩])
 (.cond (.t 10)
 (.seq
 (.reg [
 ⟨(some 11), .mov (.t 0), none⟩,
 ⟨(some 12), .mov (.t 1), none⟩,
 ⟨(some 13), .mov (.t 0), none⟩,
 ⟨(some 14), .mov (.t 0), none⟩,
 ⟨(some 15), .call 103 [(.t 14), (.k (.int .i64 0)), (.k (.int .i64 16))], none⟩,
 ⟨(some 16), .call 95 [(.t 13), (.t 15)], none⟩,
 ⟨(some 17), .call 94 [(.t 11), (.t 12), (.t 16)], none⟩,
 ⟨(some 18), .fld 0 (.t 7), none⟩,
 ⟨none, .store 1 (.t 18) (.t 17), none⟩])
 (.seq
 (.reg [
 ⟨(some 19), .mov (.t 0), none⟩,
 ⟨(some 20), .mov (.t 1), none⟩,
 ⟨(some 21), .mov (.t 0), none⟩,
 ⟨(some 22), .mov (.t 0), none⟩,
 ⟨(some 23), .call 103 [(.t 22), (.k (.int .i64 1)), (.k (.int .i64 16))], none⟩,
 ⟨(some 24), .call 95 [(.t 21), (.t 23)], none⟩,
 ⟨(some 25), .call 94 [(.t 19), (.t 20), (.t 24)], none⟩,
 ⟨(some 26), .fld 1 (.t 7), none⟩,
 ⟨none, .store 1 (.t 26) (.t 25), none⟩])
 (.seq
 (.reg [
 ⟨(some 27), .mov (.t 0), none⟩,
 ⟨(some 28), .mov (.t 1), none⟩,
 ⟨(some 29), .mov (.t 0), none⟩,
 ⟨(some 30), .mov (.t 0), none⟩,
 ⟨(some 31), .call 103 [(.t 30), (.k (.int .i64 0)), (.k (.int .i64 16))], none⟩,
 ⟨(some 32), .call 95 [(.t 29), (.t 31)], none⟩,
 ⟨(some 33), .call 94 [(.t 27), (.t 28), (.t 32)], none⟩,
 ⟨(some 34), .fld 2 (.t 7), none⟩,
 ⟨none, .store 1 (.t 34) (.t 33), none⟩])
 (.seq
 (.regd [
 ⟨⟨(some 35), .mov (.t 0), none⟩, 0, [], false⟩,
 ⟨⟨(some 36), .mov (.t 0), none⟩, 1, [], false⟩,
 ⟨⟨(some 38), .fld 1 (.t 7), none⟩, 3, [], false⟩,
 ⟨⟨(some 39), .load 1 false (.t 38), none⟩, 4, [], true⟩,
 ⟨⟨(some 40), .len false (.t 39), none⟩, 5, [], false⟩,
 ⟨⟨(some 37), .call 103 [(.t 36), (.k (.int .i64 0)), (.k (.int .i64 16))], none⟩, 2, [1], false⟩,
 ⟨⟨(some 41), .call 104 [(.t 35), (.t 37), (.t 40)], none⟩, 6, [0, 2, 1, 5, 4, 3], false⟩,
 ⟨⟨(some 42), .fld 3 (.t 7), none⟩, 7, [], false⟩,
 ⟨⟨none, .store 1 (.t 42) (.t 41), none⟩, 8, [7, 0, 1, 2, 3, 4, 5, 6], false⟩])
 (.seq
 (.reg [
 ⟨(some 43), .load 4 true (.t 7), none⟩,
 ⟨(some 44), .lits 4 61 [(.t 43)], none⟩,
 ⟨(some 6), .mov (.t 44), none⟩])
 .ret)))))
 .skip))
 (.seq
 (.reg [
 ⟨(some 45), .mov (.t 0), none⟩,
 ⟨(some 46), .call 103 [(.t 45), (.k (.int .i64 1)), (.k (.int .i64 16))], none⟩,
 ⟨(some 47), .mov (.t 0), none⟩,
 ⟨(some 48), .call 103 [(.t 47), (.k (.int .i64 0)), (.k (.int .i64 16))], none⟩,
 ⟨(some 8), .mov (.t 46), none⟩,
 ⟨(some 9), .mov (.t 48), none⟩])
 (.seq
 (.reg [
 ⟨(some 49), .mov (.t 0), none⟩,
 ⟨(some 50), .mov (.t 1), none⟩,
 ⟨(some 51), .mov (.t 0), none⟩,
 ⟨(some 52), .mov (.t 8), none⟩,
 ⟨(some 53), .call 95 [(.t 51), (.t 52)], none⟩,
 ⟨(some 54), .call 94 [(.t 49), (.t 50), (.t 53)], none⟩,
 ⟨(some 55), .fld 1 (.t 7), none⟩,
 ⟨none, .store 1 (.t 55) (.t 54), none⟩])
 (.seq
 (.reg [
 ⟨(some 56), .mov (.t 0), none⟩,
 ⟨(some 57), .mov (.t 9), none⟩,
 ⟨(some 58), .mov (.t 8), none⟩,
 ⟨(some 59), .call 104 [(.t 56), (.t 57), (.t 58)], none⟩,
 ⟨(some 60), .fld 3 (.t 7), none⟩,
 ⟨none, .store 1 (.t 60) (.t 59), none⟩])
 (.seq
 (.reg [
 ⟨(some 61), .load 4 true (.t 7), none⟩,
 ⟨(some 62), .lits 4 61 [(.t 61)], none⟩,
 ⟨(some 6), .mov (.t 62), none⟩])
 .ret)))))))
theorem a85 : Go.Proofs.Try.f85.body.bind (comp Go.Proofs.Try.prog) = some A85 := by kernel_rfl
theorem r85 : compRVs Go.Proofs.Try.prog Go.Proofs.Try.f85.results.toList = some [.tmp 6] := by kernel_rfl
theorem n85 : (Go.Proofs.Try.f85.name == "runtime.NumGoroutine") = false := by decide +kernel
def E85 : Nat × ACode × Nat × List RV := (85, A85, 63, [.tmp 6])
theorem e85 : EntryOk Go.Proofs.Try.prog E85 := ⟨Go.Proofs.Try.f85, Go.Proofs.Try.func85, n85, a85, Go.Proofs.Try.ntmps85, r85⟩
/-! reedpen/context.must -/
def A93 : ACode :=
 (.seq
 (.reg [
 ⟨(some 2), .mov (.t 0), none⟩,
 ⟨(some 3), .un .not (.t 2), none⟩])
 (.cond (.t 3)
 (.reg [
 ⟨(some 4), .build [] [], none⟩,
 ⟨(some 5), .mkif 119 (.t 4), none⟩,
 ⟨none, .pan (.t 5), none⟩])
 .skip))
theorem a93 : Go.Proofs.Try.f93.body.bind (comp Go.Proofs.Try.prog) = some A93 := by kernel_rfl
theorem r93 : compRVs Go.Proofs.Try.prog Go.Proofs.Try.f93.results.toList = some [] := by kernel_rfl
theorem n93 : (Go.Proofs.Try.f93.name == "runtime.NumGoroutine") = false := by decide +kernel
def E93 : Nat × ACode × Nat × List RV := (93, A93, 6, [])
theorem e93 : EntryOk Go.Proofs.Try.prog E93 := ⟨Go.Proofs.Try.f93, Go.Proofs.Try.func93, n93, a93, Go.Proofs.Try.ntmps93, r93⟩
/-! (*reedpen/context.reader).covers -/
def A94 : ACode :=
 (.seq
 (.reg [
 ⟨(some 6), .mov (.k (.vec true [])), none⟩])
 (.seq
 (.reg [
 ⟨(some 7), .mov (.k (.vec true [])), none⟩])
 (.seq
 (.seq
 (.reg [
 ⟨(some 12), .mov (.t 2), none⟩,
 ⟨(some 13), .len false (.t 12), none⟩,
 ⟨(some 14), .mov (.k (.int .i64 0)), none⟩])
 (.block 0
 (.loop
 (.seq
 (.reg [
 ⟨(some 15), .bin .lss (.t 14) (.t 13), none⟩])
 (.seq
 (.cond (.t 15)
 .skip
 (.exit 0))
 (.seq
 (.block 1
 (.seq
 (.reg [
 ⟨(some 16), .idx 1 (.t 12) (.t 14), none⟩,
 ⟨(some 17), .load 1 false (.t 16), none⟩,
 ⟨(some 9), .mov (.t 17), none⟩])
 (.seq
 (.reg [
 ⟨(some 19), .mov (.t 0), none⟩,
 ⟨(some 20), .nchk (.t 19), none⟩,
 ⟨(some 21), .fld 0 (.t 20), none⟩,
 ⟨(some 22), .load 1 false (.t 21), none⟩,
 ⟨(some 23), .mov (.t 1), none⟩,
 ⟨(some 24), .mov (.t 9), none⟩,
 ⟨(some 25), .bin .add (.t 23) (.t 24), none⟩,
 ⟨(some 26), .call 18 [(.t 22), (.t 25)], none⟩,
 ⟨(some 18), .mov (.t 26), none⟩,
 ⟨(some 27), .ext 0 (.t 18), none⟩,
 ⟨(some 28), .ext 1 (.t 18), none⟩,
 ⟨(some 10), .mov (.t 27), none⟩,
 ⟨(some 11), .mov (.t 28), none⟩])
 (.seq
 (.reg [
 ⟨(some 29), .mov (.t 11), none⟩,
 ⟨(some 30), .call 93 [(.t 29)], none⟩])
 (.reg [
 ⟨(some 31), .mov (.t 7), none⟩,
 ⟨(some 32), .mov (.t 10), none⟩,
 ⟨(some 33), .build [(.vec true []), (.bool false)] [(0, 1, (.t 32))], none⟩,
 ⟨(some 34), .lits 2 36 [(.t 33)], none⟩,
 ⟨(some 35), .app 2 32 36 (.t 31) (.t 34), none⟩,
 ⟨(some 7), .mov (.t 35), none⟩])))))
 (.reg [
 ⟨(some 36), .bin .add (.t 14) (.k (.int .i64 1)), none⟩,
 ⟨(some 14), .mov (.t 36), none⟩])))))))
 (.seq
 (.reg [
 ⟨(some 37), .mov (.t 7), none⟩,
 ⟨(some 6), .mov (.t 37), none⟩])
 .ret))))
theorem a94 : Go.Proofs.Try.f94.body.bind (comp Go.Proofs.Try.prog) = some A94 := by kernel_rfl
theorem r94 : compRVs Go.Proofs.Try.prog Go.Proofs.Try.f94.results.toList = some [.tmp 6] := by kernel_rfl
theorem n94 : (Go.Proofs.Try.f94.name == "runtime.NumGoroutine") = false := by decide +kernel
def E94 : Nat × ACode × Nat × List RV := (94, A94, 38, [.tmp 6])
theorem e94 : EntryOk Go.Proofs.Try.prog E94 := ⟨Go.Proofs.Try.f94, Go.Proofs.Try.func94, n94, a94, Go.Proofs.Try.ntmps94, r94⟩
/-! (*reedpen/context.reader).row -/
def A95 : ACode :=
 (.seq
 (.reg [
 ⟨(some 4), .mov (.k (.vec true [])), none⟩])
 (.seq
 (.regd [
 ⟨⟨(some 8), .mov (.t 0), none⟩, 0, [], false⟩,
 ⟨⟨(some 9), .nchk (.t 8), none⟩, 1, [], false⟩,
 ⟨⟨(some 10), .fld 0 (.t 9), none⟩, 2, [], false⟩,
 ⟨⟨(some 11), .load 1 false (.t 10), none⟩, 3, [], false⟩,
 ⟨⟨(some 12), .mov (.t 0), none⟩, 4, [], false⟩,
 ⟨⟨(some 13), .nchk (.t 12), none⟩, 5, [], false⟩,
 ⟨⟨(some 14), .fld 1 (.t 13), none⟩, 6, [], false⟩,
 ⟨⟨(some 15), .load 1 false (.t 14), none⟩, 7, [], false⟩,
 ⟨⟨(some 16), .mov (.t 1), none⟩, 8, [], false⟩,
 ⟨⟨(some 17), .call 58 [(.t 11), (.t 15), (.t 16), (.k (.int .i64 2))], none⟩, 9, [3, 2, 1, 0, 7, 6, 5, 4, 8], false⟩,
 ⟨⟨(some 7), .mov (.t 17), none⟩, 10, [], false⟩,
 ⟨⟨(some 18), .ext 0 (.t 7), none⟩, 11, [], false⟩,
 ⟨⟨(some 19), .ext 1 (.t 7), none⟩, 12, [], false⟩,
 ⟨⟨(some 5), .mov (.t 18), none⟩, 13, [], false⟩,
 ⟨⟨(some 6), .mov (.t 19), none⟩, 14, [], false⟩])
 (.seq
 (.reg [
 ⟨(some 20), .mov (.t 6), none⟩,
 ⟨(some 21), .call 93 [(.t 20)], none⟩])
 (.seq
 (.reg [
 ⟨(some 22), .mov (.t 0), none⟩,
 ⟨(some 23), .nchk (.t 22), none⟩,
 ⟨(some 24), .fld 1 (.t 23), none⟩,
 ⟨(some 25), .load 1 false (.t 24), none⟩,
 ⟨(some 26), .mov (.t 1), none⟩,
 ⟨(some 27), .bin .mul (.t 26) (.k (.int .i64 2)), none⟩,
 ⟨(some 28), .bin .add (.t 25) (.t 27), none⟩,
 ⟨(some 29), .nchk (.t 22), none⟩,
 ⟨(some 30), .fld 1 (.t 29), none⟩,
 ⟨none, .store 1 (.t 30) (.t 28), none⟩])
 (.seq
 (.reg [
 ⟨(some 31), .mov (.t 5), none⟩,
 ⟨(some 4), .mov (.t 31), none⟩])
 .ret)))))
theorem a95 : Go.Proofs.Try.f95.body.bind (comp Go.Proofs.Try.prog) = some A95 := by kernel_rfl
theorem r95 : compRVs Go.Proofs.Try.prog Go.Proofs.Try.f95.results.toList = some [.tmp 4] := by kernel_rfl
theorem n95 : (Go.Proofs.Try.f95.name == "runtime.NumGoroutine") = false := by decide +kernel
def E95 : Nat × ACode × Nat × List RV := (95, A95, 32, [.tmp 4])
theorem e95 : EntryOk Go.Proofs.Try.prog E95 := ⟨Go.Proofs.Try.f95, Go.Proofs.Try.func95, n95, a95, Go.Proofs.Try.ntmps95, r95⟩
/-! (*reedpen/context.reader).list -/
def A96 : ACode :=
 (.seq
 (.reg [
 ⟨(some 9), .box (.t 4) 143, none⟩,
 ⟨(some 10), .mov (.k (.vec true [])), none⟩])
 (.seq
 (.reg [
 ⟨(some 11), .mov (.k (.vec true [])), none⟩])
 (.seq
 (.seq
 (.reg [
 ⟨(some 18), .mov (.t 2), none⟩,
 ⟨(some 19), .len false (.t 18), none⟩,
 ⟨(some 20), .mov (.k (.int .i64 0)), none⟩])
 (.block 0
 (.loop
 (.seq
 (.reg [
 ⟨(some 21), .bin .lss (.t 20) (.t 19), none⟩])
 (.seq
 (.cond (.t 21)
 .skip
 (.exit 0))
 (.seq
 (.block 1
 (.seq
 (.reg [
 ⟨(some 22), .mov (.t 20), none⟩,
 ⟨(some 23), .idx 1 (.t 18) (.t 20), none⟩,
 ⟨(some 24), .load 1 false (.t 23), none⟩,
 ⟨(some 12), .mov (.t 22), none⟩,
 ⟨(some 13), .mov (.t 24), none⟩])
 (.seq
 (.seq
 (.reg [
 ⟨(some 25), .mov (.t 13), none⟩,
 ⟨(some 26), .bin .eql (.t 25) (.k (.int .i64 0)), none⟩])
 (.cond (.t 26)
 (.exit 1)
 .skip))
 (.seq
 (.reg [
 ⟨(some 27), .mov (.t 0), none⟩,
 ⟨(some 28), .nchk (.t 27), none⟩,
 ⟨(some 29), .fld 0 (.t 28), none⟩,
 ⟨(some 30), .load 1 false (.t 29), none⟩,
 ⟨(some 31), .mov (.t 1), none⟩,
 ⟨(some 32), .mov (.t 13), none⟩,
 ⟨(some 33), .bin .add (.t 31) (.t 32), none⟩,
 ⟨(some 34), .build [(.vec true []), (.int .i64 0)] [(0, 1, (.t 30)), (1, 1, (.t 33))], none⟩,
 ⟨(some 35), .box (.t 34) 123, none⟩,
 ⟨(some 14), .mov (.t 35), none⟩])
 (.seq
 (.reg [
 ⟨(some 36), .mov (.t 14), none⟩,
 ⟨(some 37), .call 82 [(.t 36)], none⟩,
 ⟨(some 15), .mov (.t 37), none⟩])
 (.seq
 (.reg [
 ⟨(some 38), .mov (.t 15), none⟩,
 ⟨(some 39), .bin .leq (.t 38) (.k (.int .i64 64)), none⟩,
 ⟨(some 40), .call 93 [(.t 39)], none⟩])
 (.seq
 (.reg [
 ⟨(some 41), .mov (.t 14), none⟩,
 ⟨(some 42), .mov (.t 15), none⟩,
 ⟨(some 43), .call 95 [(.t 41), (.t 42)], none⟩,
 ⟨(some 44), .len false (.t 43), none⟩,
 ⟨(some 45), .mov (.k (.int .i64 0)), none⟩])
 (.block 2
 (.loop
 (.seq
 (.reg [
 ⟨(some 46), .bin .lss (.t 45) (.t 44), none⟩])
 (.seq
 (.cond (.t 46)
 .skip
 (.exit 2))
 (.seq
 (.block 3
 (.seq
 (.reg [
 ⟨(some 47), .idx 1 (.t 43) (.t 45), none⟩,
 ⟨(some 48), .load 1 false (.t 47), none⟩,
 ⟨(some 17), .mov (.t 48), none⟩])
 (.seq
 (.regd2 [
 ⟨⟨(some 49), .mov (.t 11), none⟩, 0, [], false⟩,
 ⟨⟨(some 50), .mov (.t 0), none⟩, 1, [], false⟩,
 ⟨⟨(some 51), .nchk (.t 50), none⟩, 2, [], false⟩,
 ⟨⟨(some 52), .fld 0 (.t 51), none⟩, 3, [], false⟩,
 ⟨⟨(some 53), .load 1 false (.t 52), none⟩, 4, [], false⟩,
 ⟨⟨(some 54), .mov (.t 1), none⟩, 5, [], false⟩,
 ⟨⟨(some 55), .mov (.t 13), none⟩, 6, [], false⟩,
 ⟨⟨(some 56), .bin .add (.t 54) (.t 55), none⟩, 7, [], false⟩,
 ⟨⟨(some 57), .mov (.t 17), none⟩, 8, [], false⟩,
 ⟨⟨(some 58), .bin .add (.t 56) (.t 57), none⟩, 9, [], false⟩,
 ⟨⟨(some 59), .build [(.vec true []), (.int .i64 0)] [(0, 1, (.t 53)), (1, 1, (.t 58))], none⟩, 10, [], false⟩,
 ⟨⟨(some 61), .mov (.t 3), none⟩, 12, [], false⟩,
 ⟨⟨(some 62), .mov (.t 12), none⟩, 13, [], false⟩,
 ⟨⟨(some 64), .load 4 true (.t 9), none⟩, 15, [], true⟩,
 ⟨⟨(some 60), .box (.t 59) 123, none⟩, 11, [10, 4, 3, 2, 1, 9, 7, 5, 6, 8], false⟩,
 ⟨⟨(some 63), .callv (.t 61) [(.t 62)], none⟩, 14, [12, 13, 11, 10, 4, 3, 2, 1, 9, 7, 5, 6, 8], false⟩,
 ⟨⟨(some 65), .call 107 [(.t 60), (.t 63), (.t 64)], none⟩, 16, [11, 10, 4, 3, 2, 1, 9, 7, 5, 6, 8, 14, 12, 13, 15, 11, 10, 4, 3, 2, 1, 9, 7, 5, 6, 8], false⟩,
 ⟨⟨(some 66), .lits 4 61 [(.t 65)], none⟩, 17, [], false⟩,
 ⟨⟨(some 67), .app 4 96 61 (.t 49) (.t 66), none⟩, 18, [0, 17, 16, 11, 10, 4, 3, 2, 1, 9, 7, 5, 6, 8, 14, 12, 13, 15, 11, 10, 4, 3, 2, 1, 9, 7, 5, 6, 8], false⟩,
 ⟨⟨(some 11), .mov (.t 67), none⟩, 19, [], false⟩] [
 ⟨⟨(some 49), .mov (.t 11), none⟩, 0, [], false⟩,
 ⟨⟨(some 50), .mov (.t 0), none⟩, 1, [], false⟩,
 ⟨⟨(some 51), .nchk (.t 50), none⟩, 2, [], false⟩,
 ⟨⟨(some 52), .fld 0 (.t 51), none⟩, 3, [], false⟩,
 ⟨⟨(some 53), .load 1 false (.t 52), none⟩, 4, [], true⟩,
 ⟨⟨(some 54), .mov (.t 1), none⟩, 5, [], false⟩,
 ⟨⟨(some 55), .mov (.t 13), none⟩, 6, [], false⟩,
 ⟨⟨(some 56), .bin .add (.t 54) (.t 55), none⟩, 7, [], false⟩,
 ⟨⟨(some 57), .mov (.t 17), none⟩, 8, [], false⟩,
 ⟨⟨(some 58), .bin .add (.t 56) (.t 57), none⟩, 9, [], false⟩,
 ⟨⟨(some 59), .build [(.vec true []), (.int .i64 0)] [(0, 1, (.t 53)), (1, 1, (.t 58))], none⟩, 10, [], false⟩,
 ⟨⟨(some 61), .mov (.t 3), none⟩, 12, [], false⟩,
 ⟨⟨(some 62), .mov (.t 12), none⟩, 13, [], false⟩,
 ⟨⟨(some 64), .load 4 true (.t 9), none⟩, 15, [], true⟩,
 ⟨⟨(some 63), .callv (.t 61) [(.t 62)], none⟩, 14, [12, 13], false⟩,
 ⟨⟨(some 60), .box (.t 59) 123, none⟩, 11, [10, 4, 3, 2, 1, 9, 7, 5, 6, 8, 14, 12, 13], false⟩,
 ⟨⟨(some 65), .call 107 [(.t 60), (.t 63), (.t 64)], none⟩, 16, [11, 10, 4, 3, 2, 1, 9, 7, 5, 6, 8, 14, 12, 13, 15, 14, 12, 13], false⟩,
 ⟨⟨(some 66), .lits 4 61 [(.t 65)], none⟩, 17, [], false⟩,
 ⟨⟨(some 67), .app 4 96 61 (.t 49) (.t 66), none⟩, 18, [0, 17, 16, 11, 10, 4, 3, 2, 1, 9, 7, 5, 6, 8, 14, 12, 13, 15, 14, 12, 13], false⟩,
 ⟨⟨(some 11), .mov (.t 67), none⟩, 19, [], false⟩])
 (.reg [
 ⟨(some 68), .mov (.t 11), none⟩,
 ⟨(some 69), .len false (.t 68), none⟩,
 ⟨(some 70), .bin .leq (.t 69) (.k (.int .i64 64)), none⟩,
 ⟨(some 71), .call 93 [(.t 70)], none⟩]))))
 (.reg [
 ⟨(some 72), .bin .add (.t 45) (.k (.int .i64 1)), none⟩,
 ⟨(some 45), .mov (.t 72), none⟩])))))))))))))
 (.reg [
 ⟨(some 73), .bin .add (.t 20) (.k (.int .i64 1)), none⟩,
 ⟨(some 20), .mov (.t 73), none⟩])))))))
 (.seq
 (.reg [
 ⟨(some 74), .mov (.t 11), none⟩,
 ⟨(some 10), .mov (.t 74), none⟩])
 .ret))))
theorem a96 : Go.Proofs.Try.f96.body.bind (comp Go.Proofs.Try.prog) = some A96 := by kernel_rfl
theorem r96 : compRVs Go.Proofs.Try.prog Go.Proofs.Try.f96.results.toList = some [.tmp 10] := by kernel_rfl
theorem n96 : (Go.Proofs.Try.f96.name == "runtime.NumGoroutine") = false := by decide +kernel
def E96 : Nat × ACode × Nat × List RV := (96, A96, 75, [.tmp 10])
theorem e96 : EntryOk Go.Proofs.Try.prog E96 := ⟨Go.Proofs.Try.f96, Go.Proofs.Try.func96, n96, a96, Go.Proofs.Try.ntmps96, r96⟩
/-! (*reedpen/context.reader).single$1 -/
def A97 : ACode :=
 (.seq
 (.reg [
 ⟨(some 3), .new [(.vec true []), (.bool false)] 36, none⟩])
 (.seq
 (.reg [
 ⟨(some 4), .load 1 false (.t 1), none⟩,
 ⟨(some 5), .mov (.t 0), none⟩,
 ⟨(some 6), .idx 1 (.t 4) (.t 5), none⟩,
 ⟨(some 7), .load 1 false (.t 6), none⟩,
 ⟨(some 8), .call 98 [(.t 7)], none⟩,
 ⟨none, .store 2 (.t 3) (.t 8), none⟩])
 .ret))
theorem a97 : Go.Proofs.Try.f97.body.bind (comp Go.Proofs.Try.prog) = some A97 := by kernel_rfl
theorem r97 : compRVs Go.Proofs.Try.prog Go.Proofs.Try.f97.results.toList = some [.cell 3 2 true] := by kernel_rfl
theorem n97 : (Go.Proofs.Try.f97.name == "runtime.NumGoroutine") = false := by decide +kernel
def E97 : Nat × ACode × Nat × List RV := (97, A97, 9, [.cell 3 2 true])
theorem e97 : EntryOk Go.Proofs.Try.prog E97 := ⟨Go.Proofs.Try.f97, Go.Proofs.Try.func97, n97, a97, Go.Proofs.Try.ntmps97, r97⟩
/-! reedpen/context.glyph -/
def A98 : ACode :=
 (.seq
 (.reg [
 ⟨(some 2), .new [(.vec true []), (.bool false)] 36, none⟩])
 (.seq
 (.reg [
 ⟨(some 3), .mov (.t 0), none⟩,
 ⟨(some 4), .mov (.t 0), none⟩,
 ⟨(some 5), .build [(.int .i64 0), (.int .i64 0)] [(0, 1, (.t 3)), (1, 1, (.t 4))], none⟩,
 ⟨(some 6), .lits 2 38 [(.t 5)], none⟩,
 ⟨(some 7), .build [(.vec true []), (.bool false)] [(0, 1, (.t 6))], none⟩,
 ⟨none, .store 2 (.t 2) (.t 7), none⟩])
 .ret))
theorem a98 : Go.Proofs.Try.f98.body.bind (comp Go.Proofs.Try.prog) = some A98 := by kernel_rfl
theorem r98 : compRVs Go.Proofs.Try.prog Go.Proofs.Try.f98.results.toList = some [.cell 2 2 true] := by kernel_rfl
theorem n98 : (Go.Proofs.Try.f98.name == "runtime.NumGoroutine") = false := by decide +kernel
def E98 : Nat × ACode × Nat × List RV := (98, A98, 8, [.cell 2 2 true])
theorem e98 : EntryOk Go.Proofs.Try.prog E98 := ⟨Go.Proofs.Try.f98, Go.Proofs.Try.func98, n98, a98, Go.Proofs.Try.ntmps98, r98⟩
/-! (*reedpen/context.reader).classes -/
def A99 : ACode :=
 (.seq
 (.reg [
 ⟨(some 6), .mov (.k (.vec true [])), none⟩])
 (.seq
 (.seq
 (.reg [
 ⟨(some 9), .mov (.t 2), none⟩,
 ⟨(some 10), .bin .eql (.t 9) (.k (.int .i64 0)), none⟩])
 (.cond (.t 10)
 (.seq
 (.reg [
 ⟨(some 6), .mov (.k (.vec true [])), none⟩])
 .ret)
 .skip))
 (.seq
 (.reg [
 ⟨(some 12), .mov (.t 0), none⟩,
 ⟨(some 13), .nchk (.t 12), none⟩,
 ⟨(some 14), .fld 0 (.t 13), none⟩,
 ⟨(some 15), .load 1 false (.t 14), none⟩,
 ⟨(some 16), .mov (.t 1), none⟩,
 ⟨(some 17), .mov (.t 2), none⟩,
 ⟨(some 18), .bin .add (.t 16) (.t 17), none⟩,
 ⟨(some 19), .call 20 [(.t 15), (.t 18)], none⟩,
 ⟨(some 11), .mov (.t 19), none⟩,
 ⟨(some 20), .ext 0 (.t 11), none⟩,
 ⟨(some 21), .ext 1 (.t 11), none⟩,
 ⟨(some 7), .mov (.t 20), none⟩,
 ⟨(some 8), .mov (.t 21), none⟩])
 (.seq
 (.reg [
 ⟨(some 22), .mov (.t 8), none⟩,
 ⟨(some 23), .call 93 [(.t 22)], none⟩])
 (.seq
 (.reg [
 ⟨(some 24), .mov (.t 7), none⟩,
 ⟨(some 6), .mov (.t 24), none⟩])
 .ret)))))
theorem a99 : Go.Proofs.Try.f99.body.bind (comp Go.Proofs.Try.prog) = some A99 := by kernel_rfl
theorem r99 : compRVs Go.Proofs.Try.prog Go.Proofs.Try.f99.results.toList = some [.tmp 6] := by kernel_rfl
theorem n99 : (Go.Proofs.Try.f99.name == "runtime.NumGoroutine") = false := by decide +kernel
def E99 : Nat × ACode × Nat × List RV := (99, A99, 25, [.tmp 6])
theorem e99 : EntryOk Go.Proofs.Try.prog E99 := ⟨Go.Proofs.Try.f99, Go.Proofs.Try.func99, n99, a99, Go.Proofs.Try.ntmps99, r99⟩
/-! (*reedpen/context.reader).classed$1 -/
def A100 : ACode :=
 (.seq
 (.reg [
 ⟨(some 1), .box (.t 0) 27, none⟩,
 ⟨(some 2), .mov (.k .nilfn), none⟩])
 (.seq
 (.reg [
 ⟨(some 3), .mkfn (.func 101) [] [(.t 1)], none⟩,
 ⟨(some 2), .mov (.t 3), none⟩])
 .ret))
theorem a100 : Go.Proofs.Try.f100.body.bind (comp Go.Proofs.Try.prog) = some A100 := by kernel_rfl
theorem r100 : compRVs Go.Proofs.Try.prog Go.Proofs.Try.f100.results.toList = some [.tmp 2] := by kernel_rfl
theorem n100 : (Go.Proofs.Try.f100.name == "runtime.NumGoroutine") = false := by decide +kernel
def E100 : Nat × ACode × Nat × List RV := (100, A100, 4, [.tmp 2])
theorem e100 : EntryOk Go.Proofs.Try.prog E100 := ⟨Go.Proofs.Try.f100, Go.Proofs.Try.func100, n100, a100, Go.Proofs.Try.ntmps100, r100⟩
/-! (*reedpen/context.reader).classed$1$1 -/
def A101 : ACode :=
 (.seq
 (.reg [
 ⟨(some 3), .new [(.vec true []), (.bool false)] 36, none⟩])
 (.seq
 (.reg [
 ⟨(some 4), .load 1 false (.t 1), none⟩,
 ⟨(some 5), .mov (.t 0), none⟩,
 ⟨(some 6), .call 33 [(.t 4), (.t 5)], none⟩,
 ⟨none, .store 2 (.t 3) (.t 6), none⟩])
 .ret))
theorem a101 : Go.Proofs.Try.f101.body.bind (comp Go.Proofs.Try.prog) = some A101 := by kernel_rfl
theorem r101 : compRVs Go.Proofs.Try.prog Go.Proofs.Try.f101.results.toList = some [.cell 3 2 true] := by kernel_rfl
theorem n101 : (Go.Proofs.Try.f101.name == "runtime.NumGoroutine") = false := by decide +kernel
def E101 : Nat × ACode × Nat × List RV := (101, A101, 7, [.cell 3 2 true])
theorem e101 : EntryOk Go.Proofs.Try.prog E101 := ⟨Go.Proofs.Try.f101, Go.Proofs.Try.func101, n101, a101, Go.Proofs.Try.ntmps101, r101⟩
/-! (*reedpen/context.reader).classed$2 -/
def A102 : ACode :=
 (.seq
 (.reg [
 ⟨(some 4), .new [(.vec true []), (.bool false)] 36, none⟩])
 (.seq
 (.regd [
 ⟨⟨(some 5), .load 1 false (.t 1), none⟩, 0, [], true⟩,
 ⟨⟨(some 6), .load 1 false (.t 2), none⟩, 1, [], false⟩,
 ⟨⟨(some 7), .mov (.t 0), none⟩, 2, [], false⟩,
 ⟨⟨(some 8), .call 33 [(.t 6), (.t 7)], none⟩, 3, [1, 2], false⟩,
 ⟨⟨(some 9), .call 34 [(.t 5), (.t 8)], none⟩, 4, [0, 3, 1, 2], false⟩,
 ⟨⟨(some 10), .build [(.vec true []), (.bool false)] [(0, 1, (.t 9))], none⟩, 5, [], false⟩,
 ⟨⟨none, .store 2 (.t 4) (.t 10), none⟩, 6, [5, 4, 0, 3, 1, 2], false⟩])
 .ret))
theorem a102 : Go.Proofs.Try.f102.body.bind (comp Go.Proofs.Try.prog) = some A102 := by kernel_rfl
theorem r102 : compRVs Go.Proofs.Try.prog Go.Proofs.Try.f102.results.toList = some [.cell 4 2 true] := by kernel_rfl
theorem n102 : (Go.Proofs.Try.f102.name == "runtime.NumGoroutine") = false := by decide +kernel
def E102 : Nat × ACode × Nat × List RV := (102, A102, 11, [.cell 4 2 true])
theorem e102 : EntryOk Go.Proofs.Try.prog E102 := ⟨Go.Proofs.Try.f102, Go.Proofs.Try.func102, n102, a102, Go.Proofs.Try.ntmps102, r102⟩
/-! (*reedpen/context.reader).count -/
def A103 : ACode :=
 (.seq
 (.reg [
 ⟨(some 6), .mov (.k (.int .i64 0)), none⟩])
 (.seq
 (.reg [
 ⟨(some 8), .mov (.t 0), none⟩,
 ⟨(some 9), .call 82 [(.t 8)], none⟩,
 ⟨(some 7), .mov (.t 9), none⟩])
 (.seq
 (.reg [
 ⟨(some 10), .mov (.t 7), none⟩,
 ⟨(some 11), .mov (.t 1), none⟩,
 ⟨(some 12), .bin .geq (.t 10) (.t 11), none⟩,
 ⟨(some 13), .mov (.t 12), none⟩,
 ⟨(some 14), .mov (.t 7), (some (13, true))⟩,
 ⟨(some 15), .mov (.t 2), (some (13, true))⟩,
 ⟨(some 16), .bin .leq (.t 14) (.t 15), (some (13, true))⟩,
 ⟨(some 17), .pick (.t 13) (.t 16) (.k (.bool false)), none⟩,
 ⟨(some 18), .call 93 [(.t 17)], none⟩])
 (.seq
 (.reg [
 ⟨(some 19), .mov (.t 7), none⟩,
 ⟨(some 6), .mov (.t 19), none⟩])
 .ret))))
theorem a103 : Go.Proofs.Try.f103.body.bind (comp Go.Proofs.Try.prog) = some A103 := by kernel_rfl
theorem r103 : compRVs Go.Proofs.Try.prog Go.Proofs.Try.f103.results.toList = some [.tmp 6] := by kernel_rfl
theorem n103 : (Go.Proofs.Try.f103.name == "runtime.NumGoroutine") = false := by decide +kernel
def E103 : Nat × ACode × Nat × List RV := (103, A103, 20, [.tmp 6])
theorem e103 : EntryOk Go.Proofs.Try.prog E103 := ⟨Go.Proofs.Try.f103, Go.Proofs.Try.func103, n103, a103, Go.Proofs.Try.ntmps103, r103⟩
/-! (*reedpen/context.reader).acts -/
def A104 : ACode :=
 (.seq
 (.reg [
 ⟨(some 6), .mov (.k (.vec true [])), none⟩])
 (.seq
 (.reg [
 ⟨(some 7), .mov (.k (.vec true [])), none⟩])
 (.seq
 (.seq
 (.reg [
 ⟨(some 10), .mov (.t 1), none⟩,
 ⟨(some 11), .mov (.k (.int .i64 0)), none⟩])
 (.block 0
 (.loop
 (.seq
 (.reg [
 ⟨(some 12), .bin .lss (.t 11) (.t 10), none⟩])
 (.seq
 (.cond (.t 12)
 .skip
 (.exit 0))
 (.seq
 (.block 1
 (.seq
 (.reg [
 ⟨(some 13), .mov (.t 0), none⟩,
 ⟨(some 14), .call 82 [(.t 13)], none⟩,
 ⟨(some 15), .mov (.t 0), none⟩,
 ⟨(some 16), .call 82 [(.t 15)], none⟩,
 ⟨(some 8), .mov (.t 14), none⟩,
 ⟨(some 9), .mov (.t 16), none⟩])
 (.seq
 (.reg [
 ⟨(some 17), .mov (.t 8), none⟩,
 ⟨(some 18), .mov (.t 2), none⟩,
 ⟨(some 19), .bin .lss (.t 17) (.t 18), none⟩,
 ⟨(some 20), .call 93 [(.t 19)], none⟩])
 (.reg [
 ⟨(some 21), .mov (.t 7), none⟩,
 ⟨(some 22), .mov (.t 8), none⟩,
 ⟨(some 23), .mov (.t 9), none⟩,
 ⟨(some 24), .build [(.int .i64 0), (.int .i64 0)] [(0, 1, (.t 22)), (1, 1, (.t 23))], none⟩,
 ⟨(some 25), .lits 2 63 [(.t 24)], none⟩,
 ⟨(some 26), .app 2 16 63 (.t 21) (.t 25), none⟩,
 ⟨(some 7), .mov (.t 26), none⟩]))))
 (.reg [
 ⟨(some 27), .bin .add (.t 11) (.k (.int .i64 1)), none⟩,
 ⟨(some 11), .mov (.t 27), none⟩])))))))
 (.seq
 (.reg [
 ⟨(some 28), .mov (.t 7), none⟩,
 ⟨(some 6), .mov (.t 28), none⟩])
 .ret))))
theorem a104 : Go.Proofs.Try.f104.body.bind (comp Go.Proofs.Try.prog) = some A104 := by kernel_rfl
theorem r104 : compRVs Go.Proofs.Try.prog Go.Proofs.Try.f104.results.toList = some [.tmp 6] := by kernel_rfl
theorem n104 : (Go.Proofs.Try.f104.name == "runtime.NumGoroutine") = false := by decide +kernel
def E104 : Nat × ACode × Nat × List RV := (104, A104, 29, [.tmp 6])
theorem e104 : EntryOk Go.Proofs.Try.prog E104 := ⟨Go.Proofs.Try.f104, Go.Proofs.Try.func104, n104, a104, Go.Proofs.Try.ntmps104, r104⟩
/-! (*reedpen/context.reader).rule -/
def A107 : ACode :=
 (.seq
 (.reg [
 ⟨(some 4), .box (.t 1) 36, none⟩,
 ⟨(some 5), .box (.t 2) 143, none⟩,
 ⟨(some 6), .new [(.vec true []), (.vec true []), (.vec true []), (.vec true [])] 61, none⟩])
 (.seq
 (.reg [
 ⟨(some 7), .new [(.vec true []), (.vec true []), (.vec true []), (.vec true [])] 61, none⟩])
 (.seq
 (.seq
 (.reg [
 ⟨(some 11), .fld 3 (.t 5), none⟩,
 ⟨(some 12), .load 1 false (.t 11), none⟩])
 (.cond (.t 12)
 (.seq
 (.regd [
 ⟨⟨(some 13), .mov (.t 0), none⟩, 0, [], false⟩,
 ⟨⟨(some 14), .mov (.t 0), none⟩, 1, [], false⟩,
 ⟨⟨(some 17), .fld 0 (.t 5), none⟩, 4, [], false⟩,
 ⟨⟨(some 18), .load 1 false (.t 17), none⟩, 5, [], true⟩,
 ⟨⟨(some 15), .call 103 [(.t 14), (.k (.int .i64 0)), (.k (.int .i64 16))], none⟩, 2, [1], false⟩,
 ⟨⟨(some 16), .call 95 [(.t 13), (.t 15)], none⟩, 3, [0, 2, 1], false⟩,
 ⟨⟨(some 19), .call 108 [(.t 16), (.t 18)], none⟩, 6, [3, 0, 2, 1, 5, 4], false⟩,
 ⟨⟨(some 20), .fld 0 (.t 7), none⟩, 7, [], false⟩,
 ⟨⟨none, .store 1 (.t 20) (.t 19), none⟩, 8, [7, 0, 1, 2, 3, 4, 5, 6], false⟩])
 (.seq
 (.reg [
 ⟨(some 21), .mov (.t 0), none⟩,
 ⟨(some 22), .call 103 [(.t 21), (.k (.int .i64 1)), (.k (.int .i64 16))], none⟩,
 ⟨(some 8), .mov (.t 22), none⟩])
 (.seq
 (.regd [
 ⟨⟨(some 23), .load 2 true (.t 4), none⟩, 0, [], true⟩,
 ⟨⟨(some 24), .lits 2 36 [(.t 23)], none⟩, 1, [], false⟩,
 ⟨⟨(some 25), .mov (.t 0), none⟩, 2, [], false⟩,
 ⟨⟨(some 26), .mov (.t 8), none⟩, 3, [], false⟩,
 ⟨⟨(some 27), .bin .sub (.t 26) (.k (.int .i64 1)), none⟩, 4, [], false⟩,
 ⟨⟨(some 29), .fld 1 (.t 5), none⟩, 6, [], false⟩,
 ⟨⟨(some 30), .load 1 false (.t 29), none⟩, 7, [], true⟩,
 ⟨⟨(some 28), .call 95 [(.t 25), (.t 27)], none⟩, 5, [2, 4, 3], false⟩,
 ⟨⟨(some 31), .call 108 [(.t 28), (.t 30)], none⟩, 8, [5, 2, 4, 3, 7, 6], false⟩,
 ⟨⟨(some 32), .app 2 32 36 (.t 24) (.t 31), none⟩, 9, [1, 0, 8, 5, 2, 4, 3, 7, 6], false⟩,
 ⟨⟨(some 33), .fld 1 (.t 7), none⟩, 10, [], false⟩,
 ⟨⟨none, .store 1 (.t 33) (.t 32), none⟩, 11, [10, 0, 1, 2, 3, 4, 5, 6, 7, 8, 9], false⟩])
 (.seq
 (.regd [
 ⟨⟨(some 34), .mov (.t 0), none⟩, 0, [], false⟩,
 ⟨⟨(some 35), .mov (.t 0), none⟩, 1, [], false⟩,
 ⟨⟨(some 38), .fld 2 (.t 5), none⟩, 4, [], false⟩,
 ⟨⟨(some 39), .load 1 false (.t 38), none⟩, 5, [], true⟩,
 ⟨⟨(some 36), .call 103 [(.t 35), (.k (.int .i64 0)), (.k (.int .i64 16))], none⟩, 2, [1], false⟩,
 ⟨⟨(some 37), .call 95 [(.t 34), (.t 36)], none⟩, 3, [0, 2, 1], false⟩,
 ⟨⟨(some 40), .call 108 [(.t 37), (.t 39)], none⟩, 6, [3, 0, 2, 1, 5, 4], false⟩,
 ⟨⟨(some 41), .fld 2 (.t 7), none⟩, 7, [], false⟩,
 ⟨⟨none, .store 1 (.t 41) (.t 40), none⟩, 8, [7, 0, 1, 2, 3, 4, 5, 6], false⟩])
 (.seq
 (.reg [
 ⟨(some 42), .mov (.t 0), none⟩,
 ⟨(some 43), .mov (.t 0), none⟩,
 ⟨(some 44), .call 103 [(.t 43), (.k (.int .i64 0)), (.k (.int .i64 16))], none⟩,
 ⟨(some 45), .mov (.t 8), none⟩,
 ⟨(some 46), .call 104 [(.t 42), (.t 44), (.t 45)], none⟩,
 ⟨(some 47), .fld 3 (.t 7), none⟩,
 ⟨none, .store 1 (.t 47) (.t 46), none⟩])
 (.seq
 (.reg [
 ⟨(some 48), .load 4 true (.t 7), none⟩,
 ⟨none, .store 4 (.t 6) (.t 48), none⟩])
 .ret))))))
 .skip))
 (.seq
 (.reg [
 ⟨(some 49), .mov (.t 0), none⟩,
 ⟨(some 50), .call 103 [(.t 49), (.k (.int .i64 1)), (.k (.int .i64 16))], none⟩,
 ⟨(some 51), .mov (.t 0), none⟩,
 ⟨(some 52), .call 103 [(.t 51), (.k (.int .i64 0)), (.k (.int .i64 16))], none⟩,
 ⟨(some 9), .mov (.t 50), none⟩,
 ⟨(some 10), .mov (.t 52), none⟩])
 (.seq
 (.regd [
 ⟨⟨(some 53), .load 2 true (.t 4), none⟩, 0, [], true⟩,
 ⟨⟨(some 54), .lits 2 36 [(.t 53)], none⟩, 1, [], false⟩,
 ⟨⟨(some 55), .mov (.t 0), none⟩, 2, [], false⟩,
 ⟨⟨(some 56), .mov (.t 9), none⟩, 3, [], false⟩,
 ⟨⟨(some 57), .bin .sub (.t 56) (.k (.int .i64 1)), none⟩, 4, [], false⟩,
 ⟨⟨(some 59), .fld 1 (.t 5), none⟩, 6, [], false⟩,
 ⟨⟨(some 60), .load 1 false (.t 59), none⟩, 7, [], true⟩,
 ⟨⟨(some 58), .call 95 [(.t 55), (.t 57)], none⟩, 5, [2, 4, 3], false⟩,
 ⟨⟨(some 61), .call 108 [(.t 58), (.t 60)], none⟩, 8, [5, 2, 4, 3, 7, 6], false⟩,
 ⟨⟨(some 62), .app 2 32 36 (.t 54) (.t 61), none⟩, 9, [1, 0, 8, 5, 2, 4, 3, 7, 6], false⟩,
 ⟨⟨(some 63), .fld 1 (.t 7), none⟩, 10, [], false⟩,
 ⟨⟨none, .store 1 (.t 63) (.t 62), none⟩, 11, [10, 0, 1, 2, 3, 4, 5, 6, 7, 8, 9], false⟩])
 (.seq
 (.reg [
 ⟨(some 64), .mov (.t 0), none⟩,
 ⟨(some 65), .mov (.t 10), none⟩,
 ⟨(some 66), .mov (.t 9), none⟩,
 ⟨(some 67), .call 104 [(.t 64), (.t 65), (.t 66)], none⟩,
 ⟨(some 68), .fld 3 (.t 7), none⟩,
 ⟨none, .store 1 (.t 68) (.t 67), none⟩])
 (.seq
 (.reg [
 ⟨(some 69), .load 4 true (.t 7), none⟩,
 ⟨none, .store 4 (.t 6) (.t 69), none⟩])
 .ret)))))))
theorem a107 : Go.Proofs.Try.f107.body.bind (comp Go.Proofs.Try.prog) = some A107 := by kernel_rfl
theorem r107 : compRVs Go.Proofs.Try.prog Go.Proofs.Try.f107.results.toList = some [.cell 6 4 true] := by kernel_rfl
theorem n107 : (Go.Proofs.Try.f107.name == "runtime.NumGoroutine") = false := by decide +kernel
def E107 : Nat × ACode × Nat × List RV := (107, A107, 70, [.cell 6 4 true])
theorem e107 : EntryOk Go.Proofs.Try.prog E107 := ⟨Go.Proofs.Try.f107, Go.Proofs.Try.func107, n107, a107, Go.Proofs.Try.ntmps107, r107⟩
/-! reedpen/context.of -/
def A108 : ACode :=
 (.seq
 (.reg [
 ⟨(some 4), .mov (.k (.vec true [])), none⟩])
 (.seq
 (.reg [
 ⟨(some 5), .mov (.k (.vec true [])), none⟩])
 (.seq
 (.seq
 (.reg [
 ⟨(some 8), .mov (.t 0), none⟩,
 ⟨(some 9), .len false (.t 8), none⟩,
 ⟨(some 10), .mov (.k (.int .i64 0)), none⟩])
 (.block 0
 (.loop
 (.seq
 (.reg [
 ⟨(some 11), .bin .lss (.t 10) (.t 9), none⟩])
 (.seq
 (.cond (.t 11)
 .skip
 (.exit 0))
 (.seq
 (.block 1
 (.seq
 (.reg [
 ⟨(some 12), .idx 1 (.t 8) (.t 10), none⟩,
 ⟨(some 13), .load 1 false (.t 12), none⟩,
 ⟨(some 7), .mov (.t 13), none⟩])
 (.reg [
 ⟨(some 14), .mov (.t 5), none⟩,
 ⟨(some 15), .mov (.t 1), none⟩,
 ⟨(some 16), .mov (.t 7), none⟩,
 ⟨(some 17), .callv (.t 15) [(.t 16)], none⟩,
 ⟨(some 18), .lits 2 36 [(.t 17)], none⟩,
 ⟨(some 19), .app 2 32 36 (.t 14) (.t 18), none⟩,
 ⟨(some 5), .mov (.t 19), none⟩])))
 (.reg [
 ⟨(some 20), .bin .add (.t 10) (.k (.int .i64 1)), none⟩,
 ⟨(some 10), .mov (.t 20), none⟩])))))))
 (.seq
 (.reg [
 ⟨(some 21), .mov (.t 5), none⟩,
 ⟨(some 4), .mov (.t 21), none⟩])
 .ret))))
theorem a108 : Go.Proofs.Try.f108.body.bind (comp Go.Proofs.Try.prog) = some A108 := by kernel_rfl
theorem r108 : compRVs Go.Proofs.Try.prog Go.Proofs.Try.f108.results.toList = some [.tmp 4] := by kernel_rfl
theorem n108 : (Go.Proofs.Try.f108.name == "runtime.NumGoroutine") = false := by decide +kernel
def E108 : Nat × ACode × Nat × List RV := (108, A108, 22, [.tmp 4])
theorem e108 : EntryOk Go.Proofs.Try.prog E108 := ⟨Go.Proofs.Try.f108, Go.Proofs.Try.func108, n108, a108, Go.Proofs.Try.ntmps108, r108⟩
end Go.Proofs.Ytakplhfiohjcmaa.AI
