/- Functions' code by sight: written by a program (gen.py) out of the translation; Lean checks it against the translation. -/
import Derived.Test.YtakplhfiohjcmaaA20
import Derived.Test.YtakplhfiohjcmaaProg
namespace Go.Proofs.Ytakplhfiohjcmaa.AI
/-! reedpen/reedpenlaw15.GdefBehind -/
def A16 : ACode :=
 (.seq
 (.reg [
 ⟨(some 6), .mov (.k (.bool false)), none⟩])
 (.seq
 (.seq
 (.reg [
 ⟨(some 16), .call 42 [], none⟩,
 ⟨(some 17), .un .not (.t 16), none⟩])
 (.cond (.t 17)
 (.seq
 (.reg [
 ⟨(some 6), .mov (.k (.bool false)), none⟩])
 .ret)
 .skip))
 (.seq
 (.seq
 (.reg [
 ⟨(some 18), .mov (.t 0), none⟩,
 ⟨(some 19), .len false (.t 18), none⟩,
 ⟨(some 20), .bin .gtr (.t 19) (.k (.int .i64 1000)), none⟩,
 ⟨(some 21), .mov (.t 20), none⟩,
 ⟨(some 22), .mov (.t 1), (some (21, false))⟩,
 ⟨(some 23), .len false (.t 22), (some (21, false))⟩,
 ⟨(some 24), .bin .gtr (.t 23) (.k (.int .i64 300)), (some (21, false))⟩,
 ⟨(some 25), .pick (.t 21) (.k (.bool true)) (.t 24), none⟩])
 (.cond (.t 25)
 (.seq
 (.reg [
 ⟨(some 6), .mov (.k (.bool true)), none⟩])
 .ret)
 .skip))
 (.seq
 (.reg [
 ⟨(some 7), .mov (.k (.vec true [])), none⟩])
 (.seq
 (.reg [
 ⟨(some 26), .mov (.t 7), none⟩,
 ⟨(some 27), .mov (.t 0), none⟩,
 ⟨(some 28), .app 1 1 5 (.t 26) (.t 27), none⟩,
 ⟨(some 7), .mov (.t 28), none⟩])
 (.seq
 (.reg [
 ⟨(some 29), .mov (.t 7), none⟩,
 ⟨(some 30), .mov (.t 1), none⟩,
 ⟨(some 31), .app 1 1 5 (.t 29) (.t 30), none⟩,
 ⟨(some 7), .mov (.t 31), none⟩])
 (.seq
 (.reg [
 ⟨(some 33), .mov (.t 0), none⟩,
 ⟨(some 34), .call 43 [(.t 33), (.k (.int .i64 0))], none⟩,
 ⟨(some 32), .mov (.t 34), none⟩,
 ⟨(some 35), .ext 0 (.t 32), none⟩,
 ⟨(some 36), .ext 1 (.t 32), none⟩,
 ⟨(some 8), .new [(.vec true []), (.vec true []), (.vec true [])] 70, none⟩,
 ⟨none, .store 3 (.t 8) (.t 35), none⟩,
 ⟨(some 9), .mov (.t 36), none⟩])
 (.seq
 (.reg [
 ⟨(some 38), .mov (.t 7), none⟩,
 ⟨(some 39), .call 43 [(.t 38), (.k (.int .i64 0))], none⟩,
 ⟨(some 37), .mov (.t 39), none⟩,
 ⟨(some 40), .ext 0 (.t 37), none⟩,
 ⟨(some 41), .ext 1 (.t 37), none⟩,
 ⟨(some 10), .new [(.vec true []), (.vec true []), (.vec true [])] 70, none⟩,
 ⟨none, .store 3 (.t 10) (.t 40), none⟩,
 ⟨(some 11), .mov (.t 41), none⟩])
 (.seq
 (.seq
 (.reg [
 ⟨(some 42), .mov (.t 9), none⟩,
 ⟨(some 43), .mov (.t 42), none⟩,
 ⟨(some 44), .mov (.t 11), (some (43, true))⟩,
 ⟨(some 45), .un .not (.t 44), (some (43, true))⟩,
 ⟨(some 46), .mov (.t 45), (some (43, true))⟩,
 ⟨(some 47), .load 3 true (.t 8), (some (46, false))⟩,
 ⟨(some 48), .load 3 true (.t 10), (some (46, false))⟩,
 ⟨(some 49), .call 45 [(.t 47), (.t 48)], (some (46, false))⟩,
 ⟨(some 50), .un .not (.t 49), (some (46, false))⟩,
 ⟨(some 51), .pick (.t 46) (.k (.bool true)) (.t 50), (some (43, true))⟩,
 ⟨(some 52), .pick (.t 43) (.t 51) (.k (.bool false)), none⟩])
 (.cond (.t 52)
 (.seq
 (.reg [
 ⟨(some 6), .mov (.k (.bool false)), none⟩])
 .ret)
 .skip))
 (.seq
 (.reg [
 ⟨(some 54), .mov (.t 0), none⟩,
 ⟨(some 55), .mov (.t 2), none⟩,
 ⟨(some 56), .call 51 [(.t 54), (.k (.int .i64 0)), (.t 55)], none⟩,
 ⟨(some 53), .mov (.t 56), none⟩,
 ⟨(some 57), .ext 0 (.t 53), none⟩,
 ⟨(some 58), .ext 1 (.t 53), none⟩,
 ⟨(some 12), .mov (.t 57), none⟩,
 ⟨(some 13), .mov (.t 58), none⟩])
 (.seq
 (.reg [
 ⟨(some 60), .mov (.t 7), none⟩,
 ⟨(some 61), .mov (.t 2), none⟩,
 ⟨(some 62), .call 51 [(.t 60), (.k (.int .i64 0)), (.t 61)], none⟩,
 ⟨(some 59), .mov (.t 62), none⟩,
 ⟨(some 63), .ext 0 (.t 59), none⟩,
 ⟨(some 64), .ext 1 (.t 59), none⟩,
 ⟨(some 14), .mov (.t 63), none⟩,
 ⟨(some 15), .mov (.t 64), none⟩])
 (.seq
 (.reg [
 ⟨(some 65), .mov (.t 13), none⟩,
 ⟨(some 66), .un .not (.t 65), none⟩,
 ⟨(some 67), .mov (.t 66), none⟩,
 ⟨(some 68), .mov (.t 15), (some (67, false))⟩,
 ⟨(some 69), .mov (.t 68), (some (67, false))⟩,
 ⟨(some 70), .mov (.t 12), (some (69, true))⟩,
 ⟨(some 71), .mov (.t 14), (some (69, true))⟩,
 ⟨(some 72), .call 52 [(.t 70), (.t 71)], (some (69, true))⟩,
 ⟨(some 73), .pick (.t 69) (.t 72) (.k (.bool false)), (some (67, false))⟩,
 ⟨(some 74), .pick (.t 67) (.k (.bool true)) (.t 73), none⟩,
 ⟨(some 6), .mov (.t 74), none⟩])
 .ret))))))))))))
theorem a16 : Go.Proofs.Try.f16.body.bind (comp Go.Proofs.Try.prog) = some A16 := by kernel_rfl
theorem r16 : compRVs Go.Proofs.Try.prog Go.Proofs.Try.f16.results.toList = some [.tmp 6] := by kernel_rfl
theorem n16 : (Go.Proofs.Try.f16.name == "runtime.NumGoroutine") = false := by decide +kernel
def E16 : Nat × ACode × Nat × List RV := (16, A16, 75, [.tmp 6])
theorem e16 : EntryOk Go.Proofs.Try.prog E16 := ⟨Go.Proofs.Try.f16, Go.Proofs.Try.func16, n16, a16, Go.Proofs.Try.ntmps16, r16⟩
/-! reedpen/cover.Cover -/
def A18 : ACode :=
 (.seq
 (.reg [
 ⟨(some 4), .mov (.k (.vec true [])), none⟩,
 ⟨(some 5), .mov (.k (.bool false)), none⟩])
 (.seq
 (.seq
 (.reg [
 ⟨(some 6), .mov (.t 0), none⟩,
 ⟨(some 7), .mov (.t 1), none⟩,
 ⟨(some 8), .call 53 [(.t 6), (.t 7)], none⟩])
 (.block 0
 (.seq
 (.reg [
 ⟨(some 10), .bin .eql (.t 8) (.k (.int .i64 1)), none⟩,
 ⟨(some 9), .mov (.t 10), none⟩])
 (.cond (.t 9)
 (.seq
 (.reg [
 ⟨(some 11), .mov (.t 0), none⟩,
 ⟨(some 12), .mov (.t 1), none⟩,
 ⟨(some 13), .call 54 [(.t 11), (.t 12)], none⟩,
 ⟨(some 14), .ext 0 (.t 13), none⟩,
 ⟨(some 15), .ext 1 (.t 13), none⟩,
 ⟨(some 4), .mov (.t 14), none⟩,
 ⟨(some 5), .mov (.t 15), none⟩])
 .ret)
 (.seq
 (.reg [
 ⟨(some 17), .bin .eql (.t 8) (.k (.int .i64 2)), none⟩,
 ⟨(some 16), .mov (.t 17), none⟩])
 (.cond (.t 16)
 (.seq
 (.reg [
 ⟨(some 18), .mov (.t 0), none⟩,
 ⟨(some 19), .mov (.t 1), none⟩,
 ⟨(some 20), .call 55 [(.t 18), (.t 19)], none⟩,
 ⟨(some 21), .ext 0 (.t 20), none⟩,
 ⟨(some 22), .ext 1 (.t 20), none⟩,
 ⟨(some 4), .mov (.t 21), none⟩,
 ⟨(some 5), .mov (.t 22), none⟩])
 .ret)
 .skip))))))
 (.seq
 (.reg [
 ⟨(some 4), .mov (.k (.vec true [])), none⟩,
 ⟨(some 5), .mov (.k (.bool false)), none⟩])
 .ret)))
theorem a18 : Go.Proofs.Try.f18.body.bind (comp Go.Proofs.Try.prog) = some A18 := by kernel_rfl
theorem r18 : compRVs Go.Proofs.Try.prog Go.Proofs.Try.f18.results.toList = some [.tmp 4, .tmp 5] := by kernel_rfl
theorem n18 : (Go.Proofs.Try.f18.name == "runtime.NumGoroutine") = false := by decide +kernel
def E18 : Nat × ACode × Nat × List RV := (18, A18, 23, [.tmp 4, .tmp 5])
theorem e18 : EntryOk Go.Proofs.Try.prog E18 := ⟨Go.Proofs.Try.f18, Go.Proofs.Try.func18, n18, a18, Go.Proofs.Try.ntmps18, r18⟩
/-! reedpen/cover.Classes -/
def A20 : ACode :=
 (.seq
 (.reg [
 ⟨(some 4), .mov (.k (.vec true [])), none⟩,
 ⟨(some 5), .mov (.k (.bool false)), none⟩])
 (.scope
 (.seq
 (.reg [
 ⟨(some 6), .mov (.k (.vec true [])), none⟩])
 (.seq
 (.reg [
 ⟨(some 7), .mov (.k (.bool false)), none⟩])
 (.seq
 (.label 0)
 (.seq
 (.seq
 (.reg [
 ⟨(some 20), .mov (.t 0), none⟩,
 ⟨(some 21), .mov (.t 1), none⟩,
 ⟨(some 22), .call 53 [(.t 20), (.t 21)], none⟩])
 (.block 0
 (.seq
 (.reg [
 ⟨(some 24), .bin .eql (.t 22) (.k (.int .i64 1)), none⟩,
 ⟨(some 23), .mov (.t 24), none⟩])
 (.cond (.t 23)
 (.seq
 (.reg [
 ⟨(some 26), .mov (.t 0), none⟩,
 ⟨(some 27), .mov (.t 1), none⟩,
 ⟨(some 28), .bin .add (.t 27) (.k (.int .i64 2)), none⟩,
 ⟨(some 29), .call 57 [(.t 26), (.t 28)], none⟩,
 ⟨(some 25), .mov (.t 29), none⟩,
 ⟨(some 30), .ext 0 (.t 25), none⟩,
 ⟨(some 31), .ext 1 (.t 25), none⟩,
 ⟨(some 8), .mov (.t 30), none⟩,
 ⟨(some 9), .mov (.t 31), none⟩])
 (.seq
 (.reg [
 ⟨(some 33), .mov (.t 0), none⟩,
 ⟨(some 34), .mov (.t 1), none⟩,
 ⟨(some 35), .bin .add (.t 34) (.k (.int .i64 4)), none⟩,
 ⟨(some 36), .call 57 [(.t 33), (.t 35)], none⟩,
 ⟨(some 32), .mov (.t 36), none⟩,
 ⟨(some 37), .ext 0 (.t 32), none⟩,
 ⟨(some 38), .ext 1 (.t 32), none⟩,
 ⟨(some 10), .mov (.t 37), none⟩,
 ⟨(some 11), .mov (.t 38), none⟩])
 (.seq
 (.reg [
 ⟨(some 40), .mov (.t 0), none⟩,
 ⟨(some 41), .mov (.t 1), none⟩,
 ⟨(some 42), .bin .add (.t 41) (.k (.int .i64 4)), none⟩,
 ⟨(some 43), .bin .add (.t 42) (.k (.int .i64 2)), none⟩,
 ⟨(some 44), .mov (.t 10), none⟩,
 ⟨(some 45), .call 58 [(.t 40), (.t 43), (.t 44), (.k (.int .i64 2))], none⟩,
 ⟨(some 39), .mov (.t 45), none⟩,
 ⟨(some 46), .ext 0 (.t 39), none⟩,
 ⟨(some 47), .ext 1 (.t 39), none⟩,
 ⟨(some 12), .mov (.t 46), none⟩,
 ⟨(some 13), .mov (.t 47), none⟩])
 (.seq
 (.seq
 (.reg [
 ⟨(some 48), .mov (.t 11), none⟩,
 ⟨(some 49), .un .not (.t 48), none⟩,
 ⟨(some 50), .mov (.t 49), none⟩,
 ⟨(some 51), .mov (.t 13), (some (50, false))⟩,
 ⟨(some 52), .un .not (.t 51), (some (50, false))⟩,
 ⟨(some 53), .pick (.t 50) (.k (.bool true)) (.t 52), none⟩,
 ⟨(some 54), .mov (.t 53), none⟩,
 ⟨(some 55), .mov (.t 8), (some (54, false))⟩,
 ⟨(some 56), .mov (.t 10), (some (54, false))⟩,
 ⟨(some 57), .bin .add (.t 55) (.t 56), (some (54, false))⟩,
 ⟨(some 58), .bin .gtr (.t 57) (.k (.int .i64 65536)), (some (54, false))⟩,
 ⟨(some 59), .pick (.t 54) (.k (.bool true)) (.t 58), none⟩])
 (.cond (.t 59)
 (.exit 0)
 .skip))
 (.seq
 (.seq
 (.reg [
 ⟨(some 60), .mov (.t 12), none⟩,
 ⟨(some 61), .len false (.t 60), none⟩,
 ⟨(some 62), .mov (.k (.int .i64 0)), none⟩])
 (.block 1
 (.loop
 (.seq
 (.reg [
 ⟨(some 63), .bin .lss (.t 62) (.t 61), none⟩])
 (.seq
 (.cond (.t 63)
 .skip
 (.exit 1))
 (.seq
 (.block 2
 (.seq
 (.reg [
 ⟨(some 64), .mov (.t 62), none⟩,
 ⟨(some 65), .idx 1 (.t 60) (.t 62), none⟩,
 ⟨(some 66), .load 1 false (.t 65), none⟩,
 ⟨(some 14), .mov (.t 64), none⟩,
 ⟨(some 15), .mov (.t 66), none⟩])
 (.reg [
 ⟨(some 67), .mov (.t 6), none⟩,
 ⟨(some 68), .mov (.t 8), none⟩,
 ⟨(some 69), .mov (.t 14), none⟩,
 ⟨(some 70), .bin .add (.t 68) (.t 69), none⟩,
 ⟨(some 71), .mov (.t 8), none⟩,
 ⟨(some 72), .mov (.t 14), none⟩,
 ⟨(some 73), .bin .add (.t 71) (.t 72), none⟩,
 ⟨(some 74), .mov (.t 15), none⟩,
 ⟨(some 75), .build [(.int .i64 0), (.int .i64 0), (.int .i64 0)] [(0, 1, (.t 70)), (1, 1, (.t 73)), (2, 1, (.t 74))], none⟩,
 ⟨(some 76), .call 59 [(.t 67), (.t 75)], none⟩,
 ⟨(some 6), .mov (.t 76), none⟩])))
 (.reg [
 ⟨(some 77), .bin .add (.t 62) (.k (.int .i64 1)), none⟩,
 ⟨(some 62), .mov (.t 77), none⟩])))))))
 (.reg [
 ⟨(some 7), .mov (.k (.bool true)), none⟩]))))))
 (.seq
 (.reg [
 ⟨(some 79), .bin .eql (.t 22) (.k (.int .i64 2)), none⟩,
 ⟨(some 78), .mov (.t 79), none⟩])
 (.cond (.t 78)
 (.seq
 (.reg [
 ⟨(some 81), .mov (.t 0), none⟩,
 ⟨(some 82), .mov (.t 1), none⟩,
 ⟨(some 83), .call 60 [(.t 81), (.t 82)], none⟩,
 ⟨(some 80), .mov (.t 83), none⟩,
 ⟨(some 84), .ext 0 (.t 80), none⟩,
 ⟨(some 85), .ext 1 (.t 80), none⟩,
 ⟨(some 16), .mov (.t 84), none⟩,
 ⟨(some 17), .mov (.t 85), none⟩])
 (.seq
 (.seq
 (.reg [
 ⟨(some 86), .mov (.t 16), none⟩,
 ⟨(some 87), .len false (.t 86), none⟩,
 ⟨(some 88), .mov (.k (.int .i64 0)), none⟩])
 (.block 3
 (.loop
 (.seq
 (.reg [
 ⟨(some 89), .bin .lss (.t 88) (.t 87), none⟩])
 (.seq
 (.cond (.t 89)
 .skip
 (.exit 3))
 (.seq
 (.block 4
 (.seq
 (.reg [
 ⟨(some 90), .idx 3 (.t 86) (.t 88), none⟩,
 ⟨(some 91), .load 3 true (.t 90), none⟩,
 ⟨(some 19), .new [(.int .i64 0), (.int .i64 0), (.int .i64 0)] 97, none⟩,
 ⟨none, .store 3 (.t 19) (.t 91), none⟩])
 (.reg [
 ⟨(some 92), .mov (.t 6), none⟩,
 ⟨(some 93), .idxa 1 3 (.t 19) (.k (.int .i64 0)), none⟩,
 ⟨(some 94), .load 1 false (.t 93), none⟩,
 ⟨(some 95), .idxa 1 3 (.t 19) (.k (.int .i64 1)), none⟩,
 ⟨(some 96), .load 1 false (.t 95), none⟩,
 ⟨(some 97), .idxa 1 3 (.t 19) (.k (.int .i64 2)), none⟩,
 ⟨(some 98), .load 1 false (.t 97), none⟩,
 ⟨(some 99), .build [(.int .i64 0), (.int .i64 0), (.int .i64 0)] [(0, 1, (.t 94)), (1, 1, (.t 96)), (2, 1, (.t 98))], none⟩,
 ⟨(some 100), .call 59 [(.t 92), (.t 99)], none⟩,
 ⟨(some 6), .mov (.t 100), none⟩])))
 (.reg [
 ⟨(some 101), .bin .add (.t 88) (.k (.int .i64 1)), none⟩,
 ⟨(some 88), .mov (.t 101), none⟩])))))))
 (.reg [
 ⟨(some 102), .mov (.t 17), none⟩,
 ⟨(some 7), .mov (.t 102), none⟩])))
 .skip))))))
 (.seq
 (.reg [
 ⟨(some 103), .mov (.t 6), none⟩,
 ⟨(some 104), .mov (.t 7), none⟩,
 ⟨(some 4), .mov (.t 103), none⟩,
 ⟨(some 5), .mov (.t 104), none⟩])
 .ret)))))))
theorem a20 : Go.Proofs.Try.f20.body.bind (comp Go.Proofs.Try.prog) = some A20 := by kernel_rfl
theorem r20 : compRVs Go.Proofs.Try.prog Go.Proofs.Try.f20.results.toList = some [.tmp 4, .tmp 5] := by kernel_rfl
theorem n20 : (Go.Proofs.Try.f20.name == "runtime.NumGoroutine") = false := by decide +kernel
def E20 : Nat × ACode × Nat × List RV := (20, A20, 105, [.tmp 4, .tmp 5])
theorem e20 : EntryOk Go.Proofs.Try.prog E20 := ⟨Go.Proofs.Try.f20, Go.Proofs.Try.func20, n20, a20, Go.Proofs.Try.ntmps20, r20⟩
/-! reedpen/reedpenref10.Same -/
def A22 : ACode :=
 (.seq
 (.reg [
 ⟨(some 4), .mov (.k (.bool false)), none⟩])
 (.seq
 (.seq
 (.reg [
 ⟨(some 6), .mov (.t 0), none⟩,
 ⟨(some 7), .len false (.t 6), none⟩,
 ⟨(some 8), .mov (.t 1), none⟩,
 ⟨(some 9), .len false (.t 8), none⟩,
 ⟨(some 10), .bin .neq (.t 7) (.t 9), none⟩])
 (.cond (.t 10)
 (.seq
 (.reg [
 ⟨(some 4), .mov (.k (.bool false)), none⟩])
 .ret)
 .skip))
 (.seq
 (.seq
 (.reg [
 ⟨(some 5), .mov (.k (.int .i64 0)), none⟩])
 (.block 0
 (.loop
 (.seq
 (.seq
 (.reg [
 ⟨(some 11), .mov (.t 5), none⟩,
 ⟨(some 12), .mov (.t 0), none⟩,
 ⟨(some 13), .len false (.t 12), none⟩,
 ⟨(some 14), .bin .lss (.t 11) (.t 13), none⟩])
 (.cond (.t 14)
 .skip
 (.exit 0)))
 (.seq
 (.block 1
 (.seq
 (.regd [
 ⟨⟨(some 17), .mov (.t 0), none⟩, 0, [], false⟩,
 ⟨⟨(some 18), .mov (.t 5), none⟩, 1, [], false⟩,
 ⟨⟨(some 19), .idx 2 (.t 17) (.t 18), none⟩, 2, [], false⟩,
 ⟨⟨(some 20), .load 2 true (.t 19), none⟩, 3, [], false⟩,
 ⟨⟨(some 21), .mov (.t 1), none⟩, 4, [], false⟩,
 ⟨⟨(some 22), .mov (.t 5), none⟩, 5, [], false⟩,
 ⟨⟨(some 23), .idx 2 (.t 21) (.t 22), none⟩, 6, [], false⟩,
 ⟨⟨(some 24), .load 2 true (.t 23), none⟩, 7, [], false⟩,
 ⟨⟨(some 25), .eqs true [0, 0] (.t 20) (.t 24), none⟩, 8, [], false⟩])
 (.cond (.t 25)
 (.seq
 (.reg [
 ⟨(some 4), .mov (.k (.bool false)), none⟩])
 .ret)
 .skip)))
 (.reg [
 ⟨(some 15), .mov (.t 5), none⟩,
 ⟨(some 16), .bin .add (.t 15) (.k (.int .i64 1)), none⟩,
 ⟨(some 5), .mov (.t 16), none⟩]))))))
 (.seq
 (.reg [
 ⟨(some 4), .mov (.k (.bool true)), none⟩])
 .ret))))
theorem a22 : Go.Proofs.Try.f22.body.bind (comp Go.Proofs.Try.prog) = some A22 := by kernel_rfl
theorem r22 : compRVs Go.Proofs.Try.prog Go.Proofs.Try.f22.results.toList = some [.tmp 4] := by kernel_rfl
theorem n22 : (Go.Proofs.Try.f22.name == "runtime.NumGoroutine") = false := by decide +kernel
def E22 : Nat × ACode × Nat × List RV := (22, A22, 26, [.tmp 4])
theorem e22 : EntryOk Go.Proofs.Try.prog E22 := ⟨Go.Proofs.Try.f22, Go.Proofs.Try.func22, n22, a22, Go.Proofs.Try.ntmps22, r22⟩
/-! reedpen/reedpenref10.SameClasses -/
def A23 : ACode :=
 (.seq
 (.reg [
 ⟨(some 4), .mov (.k (.bool false)), none⟩])
 (.seq
 (.seq
 (.reg [
 ⟨(some 6), .mov (.t 0), none⟩,
 ⟨(some 7), .len false (.t 6), none⟩,
 ⟨(some 8), .mov (.t 1), none⟩,
 ⟨(some 9), .len false (.t 8), none⟩,
 ⟨(some 10), .bin .neq (.t 7) (.t 9), none⟩])
 (.cond (.t 10)
 (.seq
 (.reg [
 ⟨(some 4), .mov (.k (.bool false)), none⟩])
 .ret)
 .skip))
 (.seq
 (.seq
 (.reg [
 ⟨(some 5), .mov (.k (.int .i64 0)), none⟩])
 (.block 0
 (.loop
 (.seq
 (.seq
 (.reg [
 ⟨(some 11), .mov (.t 5), none⟩,
 ⟨(some 12), .mov (.t 0), none⟩,
 ⟨(some 13), .len false (.t 12), none⟩,
 ⟨(some 14), .bin .lss (.t 11) (.t 13), none⟩])
 (.cond (.t 14)
 .skip
 (.exit 0)))
 (.seq
 (.block 1
 (.seq
 (.regd [
 ⟨⟨(some 17), .mov (.t 0), none⟩, 0, [], false⟩,
 ⟨⟨(some 18), .mov (.t 5), none⟩, 1, [], false⟩,
 ⟨⟨(some 19), .idx 3 (.t 17) (.t 18), none⟩, 2, [], false⟩,
 ⟨⟨(some 20), .load 3 true (.t 19), none⟩, 3, [], false⟩,
 ⟨⟨(some 21), .mov (.t 1), none⟩, 4, [], false⟩,
 ⟨⟨(some 22), .mov (.t 5), none⟩, 5, [], false⟩,
 ⟨⟨(some 23), .idx 3 (.t 21) (.t 22), none⟩, 6, [], false⟩,
 ⟨⟨(some 24), .load 3 true (.t 23), none⟩, 7, [], false⟩,
 ⟨⟨(some 25), .eqs true [0, 0, 0] (.t 20) (.t 24), none⟩, 8, [], false⟩])
 (.cond (.t 25)
 (.seq
 (.reg [
 ⟨(some 4), .mov (.k (.bool false)), none⟩])
 .ret)
 .skip)))
 (.reg [
 ⟨(some 15), .mov (.t 5), none⟩,
 ⟨(some 16), .bin .add (.t 15) (.k (.int .i64 1)), none⟩,
 ⟨(some 5), .mov (.t 16), none⟩]))))))
 (.seq
 (.reg [
 ⟨(some 4), .mov (.k (.bool true)), none⟩])
 .ret))))
theorem a23 : Go.Proofs.Try.f23.body.bind (comp Go.Proofs.Try.prog) = some A23 := by kernel_rfl
theorem r23 : compRVs Go.Proofs.Try.prog Go.Proofs.Try.f23.results.toList = some [.tmp 4] := by kernel_rfl
theorem n23 : (Go.Proofs.Try.f23.name == "runtime.NumGoroutine") = false := by decide +kernel
def E23 : Nat × ACode × Nat × List RV := (23, A23, 26, [.tmp 4])
theorem e23 : EntryOk Go.Proofs.Try.prog E23 := ⟨Go.Proofs.Try.f23, Go.Proofs.Try.func23, n23, a23, Go.Proofs.Try.ntmps23, r23⟩
/-! reedpen/cover.Index -/
def A26 : ACode :=
 (.seq
 (.reg [
 ⟨(some 4), .mov (.k (.int .i64 0)), none⟩])
 (.seq
 (.reg [
 ⟨(some 5), .mov (.k (.int .i64 0)), none⟩])
 (.seq
 (.seq
 (.reg [
 ⟨(some 8), .mov (.t 0), none⟩,
 ⟨(some 9), .len false (.t 8), none⟩,
 ⟨(some 10), .mov (.k (.int .i64 0)), none⟩])
 (.block 0
 (.loop
 (.seq
 (.reg [
 ⟨(some 11), .bin .lss (.t 10) (.t 9), none⟩])
 (.seq
 (.cond (.t 11)
 .skip
 (.exit 0))
 (.seq
 (.block 1
 (.seq
 (.reg [
 ⟨(some 12), .idx 2 (.t 8) (.t 10), none⟩,
 ⟨(some 13), .load 2 true (.t 12), none⟩,
 ⟨(some 7), .new [(.int .i64 0), (.int .i64 0)] 38, none⟩,
 ⟨none, .store 2 (.t 7) (.t 13), none⟩])
 (.seq
 (.seq
 (.reg [
 ⟨(some 14), .mov (.t 1), none⟩,
 ⟨(some 15), .fld 0 (.t 7), none⟩,
 ⟨(some 16), .load 1 false (.t 15), none⟩,
 ⟨(some 17), .bin .lss (.t 14) (.t 16), none⟩])
 (.cond (.t 17)
 (.exit 0)
 .skip))
 (.seq
 (.seq
 (.reg [
 ⟨(some 18), .mov (.t 1), none⟩,
 ⟨(some 19), .fld 1 (.t 7), none⟩,
 ⟨(some 20), .load 1 false (.t 19), none⟩,
 ⟨(some 21), .bin .leq (.t 18) (.t 20), none⟩])
 (.cond (.t 21)
 (.seq
 (.reg [
 ⟨(some 22), .mov (.t 5), none⟩,
 ⟨(some 23), .mov (.t 1), none⟩,
 ⟨(some 24), .bin .add (.t 22) (.t 23), none⟩,
 ⟨(some 25), .fld 0 (.t 7), none⟩,
 ⟨(some 26), .load 1 false (.t 25), none⟩,
 ⟨(some 27), .bin .sub (.t 24) (.t 26), none⟩,
 ⟨(some 4), .mov (.t 27), none⟩])
 .ret)
 .skip))
 (.reg [
 ⟨(some 28), .mov (.t 5), none⟩,
 ⟨(some 29), .fld 1 (.t 7), none⟩,
 ⟨(some 30), .load 1 false (.t 29), none⟩,
 ⟨(some 31), .fld 0 (.t 7), none⟩,
 ⟨(some 32), .load 1 false (.t 31), none⟩,
 ⟨(some 33), .bin .sub (.t 30) (.t 32), none⟩,
 ⟨(some 34), .bin .add (.t 33) (.k (.int .i64 1)), none⟩,
 ⟨(some 35), .bin .add (.t 28) (.t 34), none⟩,
 ⟨(some 5), .mov (.t 35), none⟩])))))
 (.reg [
 ⟨(some 36), .bin .add (.t 10) (.k (.int .i64 1)), none⟩,
 ⟨(some 10), .mov (.t 36), none⟩])))))))
 (.seq
 (.reg [
 ⟨(some 4), .mov (.k (.int .i64 (-1))), none⟩])
 .ret))))
theorem a26 : Go.Proofs.Try.f26.body.bind (comp Go.Proofs.Try.prog) = some A26 := by kernel_rfl
theorem r26 : compRVs Go.Proofs.Try.prog Go.Proofs.Try.f26.results.toList = some [.tmp 4] := by kernel_rfl
theorem n26 : (Go.Proofs.Try.f26.name == "runtime.NumGoroutine") = false := by decide +kernel
def E26 : Nat × ACode × Nat × List RV := (26, A26, 37, [.tmp 4])
theorem e26 : EntryOk Go.Proofs.Try.prog E26 := ⟨Go.Proofs.Try.f26, Go.Proofs.Try.func26, n26, a26, Go.Proofs.Try.ntmps26, r26⟩
/-! reedpen/cover.Of -/
def A29 : ACode :=
 (.seq
 (.reg [
 ⟨(some 4), .mov (.k (.int .i64 0)), none⟩])
 (.seq
 (.seq
 (.reg [
 ⟨(some 7), .mov (.t 0), none⟩,
 ⟨(some 8), .len false (.t 7), none⟩,
 ⟨(some 9), .mov (.k (.int .i64 0)), none⟩])
 (.block 0
 (.loop
 (.seq
 (.reg [
 ⟨(some 10), .bin .lss (.t 9) (.t 8), none⟩])
 (.seq
 (.cond (.t 10)
 .skip
 (.exit 0))
 (.seq
 (.block 1
 (.seq
 (.reg [
 ⟨(some 11), .idx 3 (.t 7) (.t 9), none⟩,
 ⟨(some 12), .load 3 true (.t 11), none⟩,
 ⟨(some 6), .new [(.int .i64 0), (.int .i64 0), (.int .i64 0)] 48, none⟩,
 ⟨none, .store 3 (.t 6) (.t 12), none⟩])
 (.seq
 (.reg [
 ⟨(some 13), .mov (.t 1), none⟩,
 ⟨(some 14), .fld 0 (.t 6), none⟩,
 ⟨(some 15), .load 1 false (.t 14), none⟩,
 ⟨(some 16), .bin .geq (.t 13) (.t 15), none⟩,
 ⟨(some 17), .mov (.t 16), none⟩,
 ⟨(some 18), .mov (.t 1), (some (17, true))⟩,
 ⟨(some 19), .fld 1 (.t 6), (some (17, true))⟩,
 ⟨(some 20), .load 1 false (.t 19), (some (17, true))⟩,
 ⟨(some 21), .bin .leq (.t 18) (.t 20), (some (17, true))⟩,
 ⟨(some 22), .pick (.t 17) (.t 21) (.k (.bool false)), none⟩])
 (.cond (.t 22)
 (.seq
 (.reg [
 ⟨(some 23), .fld 2 (.t 6), none⟩,
 ⟨(some 24), .load 1 false (.t 23), none⟩,
 ⟨(some 4), .mov (.t 24), none⟩])
 .ret)
 .skip))))
 (.reg [
 ⟨(some 25), .bin .add (.t 9) (.k (.int .i64 1)), none⟩,
 ⟨(some 9), .mov (.t 25), none⟩])))))))
 (.seq
 (.reg [
 ⟨(some 4), .mov (.k (.int .i64 0)), none⟩])
 .ret)))
theorem a29 : Go.Proofs.Try.f29.body.bind (comp Go.Proofs.Try.prog) = some A29 := by kernel_rfl
theorem r29 : compRVs Go.Proofs.Try.prog Go.Proofs.Try.f29.results.toList = some [.tmp 4] := by kernel_rfl
theorem n29 : (Go.Proofs.Try.f29.name == "runtime.NumGoroutine") = false := by decide +kernel
def E29 : Nat × ACode × Nat × List RV := (29, A29, 26, [.tmp 4])
theorem e29 : EntryOk Go.Proofs.Try.prog E29 := ⟨Go.Proofs.Try.f29, Go.Proofs.Try.func29, n29, a29, Go.Proofs.Try.ntmps29, r29⟩
/-! reedpen/reedpenlaw15.alive -/
def A42 : ACode :=
 (.seq
 (.reg [
 ⟨(some 0), .mov (.k (.bool false)), none⟩])
 (.seq
 (.reg [
 ⟨(some 6), .lits 1 5 [(.k (.int .u8 0)), (.k (.int .u8 1)), (.k (.int .u8 0)), (.k (.int .u8 0)), (.k (.int .u8 0)), (.k (.int .u8 0)), (.k (.int .u8 0)), (.k (.int .u8 0)), (.k (.int .u8 0)), (.k (.int .u8 0)), (.k (.int .u8 0)), (.k (.int .u8 0))], none⟩,
 ⟨(some 7), .call 43 [(.t 6), (.k (.int .i64 0))], none⟩,
 ⟨(some 5), .mov (.t 7), none⟩,
 ⟨(some 8), .ext 0 (.t 5), none⟩,
 ⟨(some 9), .ext 1 (.t 5), none⟩,
 ⟨(some 1), .new [(.vec true []), (.vec true []), (.vec true [])] 70, none⟩,
 ⟨none, .store 3 (.t 1) (.t 8), none⟩,
 ⟨(some 2), .mov (.t 9), none⟩])
 (.seq
 (.reg [
 ⟨(some 11), .lits 1 5 [(.k (.int .u8 0)), (.k (.int .u8 0)), (.k (.int .u8 0)), (.k (.int .u8 1)), (.k (.int .u8 0)), (.k (.int .u8 3)), (.k (.int .u8 0)), (.k (.int .u8 1)), (.k (.int .u8 0)), (.k (.int .u8 0)), (.k (.int .u8 0)), (.k (.int .u8 12)), (.k (.int .u8 0)), (.k (.int .u8 4)), (.k (.int .u8 0)), (.k (.int .u8 0)), (.k (.int .u8 0)), (.k (.int .u8 0)), (.k (.int .u8 0)), (.k (.int .u8 2)), (.k (.int .u8 0)), (.k (.int .u8 0)), (.k (.int .u8 0)), (.k (.int .u8 0)), (.k (.int .u8 0)), (.k (.int .u8 0)), (.k (.int .u8 0)), (.k (.int .u8 66)), (.k (.int .u8 0)), (.k (.int .u8 0)), (.k (.int .u8 0)), (.k (.int .u8 65)), (.k (.int .u8 255)), (.k (.int .u8 192)), (.k (.int .u8 0)), (.k (.int .u8 0))], none⟩,
 ⟨(some 12), .call 51 [(.t 11), (.k (.int .i64 0)), (.k (.int .i64 5))], none⟩,
 ⟨(some 10), .mov (.t 12), none⟩,
 ⟨(some 13), .ext 0 (.t 10), none⟩,
 ⟨(some 14), .ext 1 (.t 10), none⟩,
 ⟨(some 3), .mov (.t 13), none⟩,
 ⟨(some 4), .mov (.t 14), none⟩])
 (.seq
 (.reg [
 ⟨(some 15), .mov (.t 2), none⟩,
 ⟨(some 16), .mov (.t 15), none⟩,
 ⟨(some 17), .mov (.t 4), (some (16, true))⟩,
 ⟨(some 18), .pick (.t 16) (.t 17) (.k (.bool false)), none⟩,
 ⟨(some 19), .mov (.t 18), none⟩,
 ⟨(some 20), .fld 0 (.t 1), (some (19, true))⟩,
 ⟨(some 21), .load 1 false (.t 20), (some (19, true))⟩,
 ⟨(some 22), .len false (.t 21), (some (19, true))⟩,
 ⟨(some 23), .bin .eql (.t 22) (.k (.int .i64 0)), (some (19, true))⟩,
 ⟨(some 24), .pick (.t 19) (.t 23) (.k (.bool false)), none⟩,
 ⟨(some 25), .mov (.t 24), none⟩,
 ⟨(some 26), .mov (.t 3), (some (25, true))⟩,
 ⟨(some 27), .len false (.t 26), (some (25, true))⟩,
 ⟨(some 28), .bin .eql (.t 27) (.k (.int .i64 1)), (some (25, true))⟩,
 ⟨(some 29), .pick (.t 25) (.t 28) (.k (.bool false)), none⟩,
 ⟨(some 30), .mov (.t 29), none⟩,
 ⟨(some 31), .mov (.t 3), (some (30, true))⟩,
 ⟨(some 32), .call 46 [(.t 31), (.k (.int .i32 66))], (some (30, true))⟩,
 ⟨(some 33), .bin .eql (.t 32) (.k (.int .i64 2)), (some (30, true))⟩,
 ⟨(some 34), .pick (.t 30) (.t 33) (.k (.bool false)), none⟩,
 ⟨(some 35), .mov (.t 34), none⟩,
 ⟨(some 36), .build [(.int .i64 0), (.int .i64 0), (.int .i64 0)] [(0, 1, (.k (.int .i64 1))), (1, 1, (.k (.int .i64 2))), (2, 1, (.k (.int .i64 3)))], (some (35, true))⟩,
 ⟨(some 37), .lits 3 48 [(.t 36)], (some (35, true))⟩,
 ⟨(some 38), .build [(.vec true []), (.vec true []), (.vec true [])] [(0, 1, (.t 37))], (some (35, true))⟩,
 ⟨(some 39), .call 48 [(.t 38), (.k (.int .i64 2))], (some (35, true))⟩,
 ⟨(some 40), .bin .eql (.t 39) (.k (.int .i64 3)), (some (35, true))⟩,
 ⟨(some 41), .pick (.t 35) (.t 40) (.k (.bool false)), none⟩,
 ⟨(some 42), .mov (.t 41), none⟩,
 ⟨(some 43), .build [(.int .i64 0), (.int .i64 0)] [(0, 1, (.k (.int .i64 4))), (1, 1, (.k (.int .i64 4)))], (some (42, true))⟩,
 ⟨(some 44), .lits 2 38 [(.t 43)], (some (42, true))⟩,
 ⟨(some 45), .lits 1 24 [(.t 44)], (some (42, true))⟩,
 ⟨(some 46), .build [(.vec true []), (.vec true []), (.vec true [])] [(2, 1, (.t 45))], (some (42, true))⟩,
 ⟨(some 47), .call 49 [(.t 46), (.k (.int .i64 0)), (.k (.int .i64 4))], (some (42, true))⟩,
 ⟨(some 48), .pick (.t 42) (.t 47) (.k (.bool false)), none⟩,
 ⟨(some 0), .mov (.t 48), none⟩])
 .ret))))
theorem a42 : Go.Proofs.Try.f42.body.bind (comp Go.Proofs.Try.prog) = some A42 := by kernel_rfl
theorem r42 : compRVs Go.Proofs.Try.prog Go.Proofs.Try.f42.results.toList = some [.tmp 0] := by kernel_rfl
theorem n42 : (Go.Proofs.Try.f42.name == "runtime.NumGoroutine") = false := by decide +kernel
def E42 : Nat × ACode × Nat × List RV := (42, A42, 49, [.tmp 0])
theorem e42 : EntryOk Go.Proofs.Try.prog E42 := ⟨Go.Proofs.Try.f42, Go.Proofs.Try.func42, n42, a42, Go.Proofs.Try.ntmps42, r42⟩
/-! reedpen/gdef.Read -/
def A43 : ACode :=
 (.seq
 (.reg [
 ⟨(some 4), .new [(.vec true []), (.vec true []), (.vec true [])] 70, none⟩,
 ⟨(some 5), .mov (.k (.bool false)), none⟩])
 (.seq
 (.reg [
 ⟨(some 13), .mov (.t 0), none⟩,
 ⟨(some 14), .mov (.t 1), none⟩,
 ⟨(some 15), .call 70 [(.t 13), (.t 14)], none⟩,
 ⟨(some 12), .mov (.t 15), none⟩,
 ⟨(some 16), .ext 0 (.t 12), none⟩,
 ⟨(some 17), .ext 1 (.t 12), none⟩,
 ⟨(some 6), .mov (.t 16), none⟩,
 ⟨(some 7), .mov (.t 17), none⟩])
 (.seq
 (.seq
 (.reg [
 ⟨(some 18), .mov (.t 7), none⟩,
 ⟨(some 19), .un .not (.t 18), none⟩,
 ⟨(some 20), .mov (.t 19), none⟩,
 ⟨(some 21), .mov (.t 6), (some (20, false))⟩,
 ⟨(some 22), .bin .neq (.t 21) (.k (.int .i64 65536)), (some (20, false))⟩,
 ⟨(some 23), .mov (.t 22), (some (20, false))⟩,
 ⟨(some 24), .mov (.t 6), (some (23, true))⟩,
 ⟨(some 25), .bin .neq (.t 24) (.k (.int .i64 65538)), (some (23, true))⟩,
 ⟨(some 26), .pick (.t 23) (.t 25) (.k (.bool false)), (some (20, false))⟩,
 ⟨(some 27), .pick (.t 20) (.k (.bool true)) (.t 26), none⟩,
 ⟨(some 28), .mov (.t 27), none⟩,
 ⟨(some 29), .mov (.t 0), (some (28, false))⟩,
 ⟨(some 30), .mov (.t 1), (some (28, false))⟩,
 ⟨(some 31), .call 71 [(.t 29), (.t 30), (.k (.int .i64 12))], (some (28, false))⟩,
 ⟨(some 32), .un .not (.t 31), (some (28, false))⟩,
 ⟨(some 33), .pick (.t 28) (.k (.bool true)) (.t 32), none⟩])
 (.cond (.t 33)
 (.seq
 (.reg [
 ⟨(some 34), .build [(.vec true []), (.vec true []), (.vec true [])] [], none⟩,
 ⟨none, .store 3 (.t 4) (.t 34), none⟩,
 ⟨(some 5), .mov (.k (.bool false)), none⟩])
 .ret)
 .skip))
 (.seq
 (.reg [
 ⟨(some 8), .new [(.vec true []), (.vec true []), (.vec true [])] 70, none⟩])
 (.seq
 (.reg [
 ⟨(some 9), .mov (.k (.bool false)), none⟩,
 ⟨(some 10), .mov (.k (.bool false)), none⟩,
 ⟨(some 11), .mov (.k (.bool true)), none⟩])
 (.seq
 (.reg [
 ⟨(some 36), .mov (.t 0), none⟩,
 ⟨(some 37), .mov (.t 1), none⟩,
 ⟨(some 38), .mov (.t 1), none⟩,
 ⟨(some 39), .bin .add (.t 38) (.k (.int .i64 4)), none⟩,
 ⟨(some 40), .call 72 [(.t 36), (.t 37), (.t 39)], none⟩,
 ⟨(some 35), .mov (.t 40), none⟩,
 ⟨(some 41), .ext 0 (.t 35), none⟩,
 ⟨(some 42), .ext 1 (.t 35), none⟩,
 ⟨(some 43), .fld 0 (.t 8), none⟩,
 ⟨none, .store 1 (.t 43) (.t 41), none⟩,
 ⟨(some 9), .mov (.t 42), none⟩])
 (.seq
 (.reg [
 ⟨(some 45), .mov (.t 0), none⟩,
 ⟨(some 46), .mov (.t 1), none⟩,
 ⟨(some 47), .mov (.t 1), none⟩,
 ⟨(some 48), .bin .add (.t 47) (.k (.int .i64 4)), none⟩,
 ⟨(some 49), .bin .add (.t 48) (.k (.int .i64 6)), none⟩,
 ⟨(some 50), .call 72 [(.t 45), (.t 46), (.t 49)], none⟩,
 ⟨(some 44), .mov (.t 50), none⟩,
 ⟨(some 51), .ext 0 (.t 44), none⟩,
 ⟨(some 52), .ext 1 (.t 44), none⟩,
 ⟨(some 53), .fld 1 (.t 8), none⟩,
 ⟨none, .store 1 (.t 53) (.t 51), none⟩,
 ⟨(some 10), .mov (.t 52), none⟩])
 (.seq
 (.seq
 (.reg [
 ⟨(some 54), .mov (.t 6), none⟩,
 ⟨(some 55), .bin .eql (.t 54) (.k (.int .i64 65538)), none⟩])
 (.cond (.t 55)
 (.reg [
 ⟨(some 57), .mov (.t 0), none⟩,
 ⟨(some 58), .mov (.t 1), none⟩,
 ⟨(some 59), .mov (.t 1), none⟩,
 ⟨(some 60), .bin .add (.t 59) (.k (.int .i64 4)), none⟩,
 ⟨(some 61), .bin .add (.t 60) (.k (.int .i64 8)), none⟩,
 ⟨(some 62), .call 73 [(.t 57), (.t 58), (.t 61)], none⟩,
 ⟨(some 56), .mov (.t 62), none⟩,
 ⟨(some 63), .ext 0 (.t 56), none⟩,
 ⟨(some 64), .ext 1 (.t 56), none⟩,
 ⟨(some 65), .fld 2 (.t 8), none⟩,
 ⟨none, .store 1 (.t 65) (.t 63), none⟩,
 ⟨(some 11), .mov (.t 64), none⟩])
 .skip))
 (.seq
 (.seq
 (.reg [
 ⟨(some 66), .mov (.t 9), none⟩,
 ⟨(some 67), .un .not (.t 66), none⟩,
 ⟨(some 68), .mov (.t 67), none⟩,
 ⟨(some 69), .mov (.t 10), (some (68, false))⟩,
 ⟨(some 70), .un .not (.t 69), (some (68, false))⟩,
 ⟨(some 71), .pick (.t 68) (.k (.bool true)) (.t 70), none⟩,
 ⟨(some 72), .mov (.t 71), none⟩,
 ⟨(some 73), .mov (.t 11), (some (72, false))⟩,
 ⟨(some 74), .un .not (.t 73), (some (72, false))⟩,
 ⟨(some 75), .pick (.t 72) (.k (.bool true)) (.t 74), none⟩])
 (.cond (.t 75)
 (.seq
 (.reg [
 ⟨(some 76), .build [(.vec true []), (.vec true []), (.vec true [])] [], none⟩,
 ⟨none, .store 3 (.t 4) (.t 76), none⟩,
 ⟨(some 5), .mov (.k (.bool false)), none⟩])
 .ret)
 .skip))
 (.seq
 (.reg [
 ⟨(some 77), .load 3 true (.t 8), none⟩,
 ⟨none, .store 3 (.t 4) (.t 77), none⟩,
 ⟨(some 5), .mov (.k (.bool true)), none⟩])
 .ret))))))))))
theorem a43 : Go.Proofs.Try.f43.body.bind (comp Go.Proofs.Try.prog) = some A43 := by kernel_rfl
theorem r43 : compRVs Go.Proofs.Try.prog Go.Proofs.Try.f43.results.toList = some [.cell 4 3 true, .tmp 5] := by kernel_rfl
theorem n43 : (Go.Proofs.Try.f43.name == "runtime.NumGoroutine") = false := by decide +kernel
def E43 : Nat × ACode × Nat × List RV := (43, A43, 78, [.cell 4 3 true, .tmp 5])
theorem e43 : EntryOk Go.Proofs.Try.prog E43 := ⟨Go.Proofs.Try.f43, Go.Proofs.Try.func43, n43, a43, Go.Proofs.Try.ntmps43, r43⟩
/-! reedpen/reedpenref15.Same -/
def A45 : ACode :=
 (.seq
 (.reg [
 ⟨(some 2), .box (.t 0) 70, none⟩,
 ⟨(some 3), .box (.t 1) 70, none⟩,
 ⟨(some 4), .mov (.k (.bool false)), none⟩])
 (.seq
 (.seq
 (.reg [
 ⟨(some 6), .fld 0 (.t 2), none⟩,
 ⟨(some 7), .load 1 false (.t 6), none⟩,
 ⟨(some 8), .fld 0 (.t 3), none⟩,
 ⟨(some 9), .load 1 false (.t 8), none⟩,
 ⟨(some 10), .call 23 [(.t 7), (.t 9)], none⟩,
 ⟨(some 11), .un .not (.t 10), none⟩,
 ⟨(some 12), .mov (.t 11), none⟩,
 ⟨(some 13), .fld 1 (.t 2), (some (12, false))⟩,
 ⟨(some 14), .load 1 false (.t 13), (some (12, false))⟩,
 ⟨(some 15), .fld 1 (.t 3), (some (12, false))⟩,
 ⟨(some 16), .load 1 false (.t 15), (some (12, false))⟩,
 ⟨(some 17), .call 23 [(.t 14), (.t 16)], (some (12, false))⟩,
 ⟨(some 18), .un .not (.t 17), (some (12, false))⟩,
 ⟨(some 19), .pick (.t 12) (.k (.bool true)) (.t 18), none⟩,
 ⟨(some 20), .mov (.t 19), none⟩,
 ⟨(some 21), .fld 2 (.t 2), (some (20, false))⟩,
 ⟨(some 22), .load 1 false (.t 21), (some (20, false))⟩,
 ⟨(some 23), .len false (.t 22), (some (20, false))⟩,
 ⟨(some 24), .fld 2 (.t 3), (some (20, false))⟩,
 ⟨(some 25), .load 1 false (.t 24), (some (20, false))⟩,
 ⟨(some 26), .len false (.t 25), (some (20, false))⟩,
 ⟨(some 27), .bin .neq (.t 23) (.t 26), (some (20, false))⟩,
 ⟨(some 28), .pick (.t 20) (.k (.bool true)) (.t 27), none⟩])
 (.cond (.t 28)
 (.seq
 (.reg [
 ⟨(some 4), .mov (.k (.bool false)), none⟩])
 .ret)
 .skip))
 (.seq
 (.seq
 (.reg [
 ⟨(some 5), .mov (.k (.int .i64 0)), none⟩])
 (.block 0
 (.loop
 (.seq
 (.seq
 (.reg [
 ⟨(some 29), .mov (.t 5), none⟩,
 ⟨(some 30), .fld 2 (.t 2), none⟩,
 ⟨(some 31), .load 1 false (.t 30), none⟩,
 ⟨(some 32), .len false (.t 31), none⟩,
 ⟨(some 33), .bin .lss (.t 29) (.t 32), none⟩])
 (.cond (.t 33)
 .skip
 (.exit 0)))
 (.seq
 (.block 1
 (.seq
 (.regd [
 ⟨⟨(some 36), .fld 2 (.t 2), none⟩, 0, [], false⟩,
 ⟨⟨(some 37), .load 1 false (.t 36), none⟩, 1, [], false⟩,
 ⟨⟨(some 38), .mov (.t 5), none⟩, 2, [], false⟩,
 ⟨⟨(some 39), .idx 1 (.t 37) (.t 38), none⟩, 3, [], false⟩,
 ⟨⟨(some 40), .load 1 false (.t 39), none⟩, 4, [], false⟩,
 ⟨⟨(some 41), .fld 2 (.t 3), none⟩, 5, [], false⟩,
 ⟨⟨(some 42), .load 1 false (.t 41), none⟩, 6, [], false⟩,
 ⟨⟨(some 43), .mov (.t 5), none⟩, 7, [], false⟩,
 ⟨⟨(some 44), .idx 1 (.t 42) (.t 43), none⟩, 8, [], false⟩,
 ⟨⟨(some 45), .load 1 false (.t 44), none⟩, 9, [], false⟩,
 ⟨⟨(some 46), .call 22 [(.t 40), (.t 45)], none⟩, 10, [4, 3, 1, 0, 2, 9, 8, 6, 5, 7], false⟩,
 ⟨⟨(some 47), .un .not (.t 46), none⟩, 11, [], false⟩])
 (.cond (.t 47)
 (.seq
 (.reg [
 ⟨(some 4), .mov (.k (.bool false)), none⟩])
 .ret)
 .skip)))
 (.reg [
 ⟨(some 34), .mov (.t 5), none⟩,
 ⟨(some 35), .bin .add (.t 34) (.k (.int .i64 1)), none⟩,
 ⟨(some 5), .mov (.t 35), none⟩]))))))
 (.seq
 (.reg [
 ⟨(some 4), .mov (.k (.bool true)), none⟩])
 .ret))))
theorem a45 : Go.Proofs.Try.f45.body.bind (comp Go.Proofs.Try.prog) = some A45 := by kernel_rfl
theorem r45 : compRVs Go.Proofs.Try.prog Go.Proofs.Try.f45.results.toList = some [.tmp 4] := by kernel_rfl
theorem n45 : (Go.Proofs.Try.f45.name == "runtime.NumGoroutine") = false := by decide +kernel
def E45 : Nat × ACode × Nat × List RV := (45, A45, 48, [.tmp 4])
theorem e45 : EntryOk Go.Proofs.Try.prog E45 := ⟨Go.Proofs.Try.f45, Go.Proofs.Try.func45, n45, a45, Go.Proofs.Try.ntmps45, r45⟩
/-! reedpen/gdef.Glyph -/
def A46 : ACode :=
 (.seq
 (.reg [
 ⟨(some 4), .mov (.k (.int .i64 0)), none⟩])
 (.seq
 (.seq
 (.reg [
 ⟨(some 7), .mov (.t 0), none⟩,
 ⟨(some 8), .len false (.t 7), none⟩,
 ⟨(some 9), .mov (.k (.int .i64 0)), none⟩])
 (.block 0
 (.loop
 (.seq
 (.reg [
 ⟨(some 10), .bin .lss (.t 9) (.t 8), none⟩])
 (.seq
 (.cond (.t 10)
 .skip
 (.exit 0))
 (.seq
 (.block 1
 (.seq
 (.reg [
 ⟨(some 11), .idx 3 (.t 7) (.t 9), none⟩,
 ⟨(some 12), .load 3 true (.t 11), none⟩,
 ⟨(some 6), .new [(.int .i32 0), (.int .i32 0), (.int .i64 0)] 76, none⟩,
 ⟨none, .store 3 (.t 6) (.t 12), none⟩])
 (.seq
 (.reg [
 ⟨(some 13), .mov (.t 1), none⟩,
 ⟨(some 14), .fld 0 (.t 6), none⟩,
 ⟨(some 15), .load 1 false (.t 14), none⟩,
 ⟨(some 16), .bin .geq (.t 13) (.t 15), none⟩,
 ⟨(some 17), .mov (.t 16), none⟩,
 ⟨(some 18), .mov (.t 1), (some (17, true))⟩,
 ⟨(some 19), .fld 1 (.t 6), (some (17, true))⟩,
 ⟨(some 20), .load 1 false (.t 19), (some (17, true))⟩,
 ⟨(some 21), .bin .leq (.t 18) (.t 20), (some (17, true))⟩,
 ⟨(some 22), .pick (.t 17) (.t 21) (.k (.bool false)), none⟩])
 (.cond (.t 22)
 (.seq
 (.reg [
 ⟨(some 23), .fld 2 (.t 6), none⟩,
 ⟨(some 24), .load 1 false (.t 23), none⟩,
 ⟨(some 25), .mov (.t 1), none⟩,
 ⟨(some 26), .fld 0 (.t 6), none⟩,
 ⟨(some 27), .load 1 false (.t 26), none⟩,
 ⟨(some 28), .bin .sub (.t 25) (.t 27), none⟩,
 ⟨(some 29), .conv .i64 (.t 28), none⟩,
 ⟨(some 30), .bin .add (.t 24) (.t 29), none⟩,
 ⟨(some 4), .mov (.t 30), none⟩])
 .ret)
 .skip))))
 (.reg [
 ⟨(some 31), .bin .add (.t 9) (.k (.int .i64 1)), none⟩,
 ⟨(some 9), .mov (.t 31), none⟩])))))))
 (.seq
 (.reg [
 ⟨(some 4), .mov (.k (.int .i64 0)), none⟩])
 .ret)))
theorem a46 : Go.Proofs.Try.f46.body.bind (comp Go.Proofs.Try.prog) = some A46 := by kernel_rfl
theorem r46 : compRVs Go.Proofs.Try.prog Go.Proofs.Try.f46.results.toList = some [.tmp 4] := by kernel_rfl
theorem n46 : (Go.Proofs.Try.f46.name == "runtime.NumGoroutine") = false := by decide +kernel
def E46 : Nat × ACode × Nat × List RV := (46, A46, 32, [.tmp 4])
theorem e46 : EntryOk Go.Proofs.Try.prog E46 := ⟨Go.Proofs.Try.f46, Go.Proofs.Try.func46, n46, a46, Go.Proofs.Try.ntmps46, r46⟩
/-! reedpen/gdef.Class -/
def A48 : ACode :=
 (.seq
 (.reg [
 ⟨(some 2), .box (.t 0) 70, none⟩,
 ⟨(some 4), .mov (.k (.int .i64 0)), none⟩])
 (.seq
 (.reg [
 ⟨(some 5), .fld 0 (.t 2), none⟩,
 ⟨(some 6), .load 1 false (.t 5), none⟩,
 ⟨(some 7), .mov (.t 1), none⟩,
 ⟨(some 8), .call 29 [(.t 6), (.t 7)], none⟩,
 ⟨(some 4), .mov (.t 8), none⟩])
 .ret))
theorem a48 : Go.Proofs.Try.f48.body.bind (comp Go.Proofs.Try.prog) = some A48 := by kernel_rfl
theorem r48 : compRVs Go.Proofs.Try.prog Go.Proofs.Try.f48.results.toList = some [.tmp 4] := by kernel_rfl
theorem n48 : (Go.Proofs.Try.f48.name == "runtime.NumGoroutine") = false := by decide +kernel
def E48 : Nat × ACode × Nat × List RV := (48, A48, 9, [.tmp 4])
theorem e48 : EntryOk Go.Proofs.Try.prog E48 := ⟨Go.Proofs.Try.f48, Go.Proofs.Try.func48, n48, a48, Go.Proofs.Try.ntmps48, r48⟩
/-! reedpen/gdef.Mark -/
def A49 : ACode :=
 (.seq
 (.reg [
 ⟨(some 3), .box (.t 0) 70, none⟩,
 ⟨(some 6), .mov (.k (.bool false)), none⟩])
 (.seq
 (.reg [
 ⟨(some 7), .mov (.t 1), none⟩,
 ⟨(some 8), .bin .geq (.t 7) (.k (.int .i64 0)), none⟩,
 ⟨(some 9), .mov (.t 8), none⟩,
 ⟨(some 10), .mov (.t 1), (some (9, true))⟩,
 ⟨(some 11), .fld 2 (.t 3), (some (9, true))⟩,
 ⟨(some 12), .load 1 false (.t 11), (some (9, true))⟩,
 ⟨(some 13), .len false (.t 12), (some (9, true))⟩,
 ⟨(some 14), .bin .lss (.t 10) (.t 13), (some (9, true))⟩,
 ⟨(some 15), .pick (.t 9) (.t 14) (.k (.bool false)), none⟩,
 ⟨(some 16), .mov (.t 15), none⟩,
 ⟨(some 17), .fld 2 (.t 3), (some (16, true))⟩,
 ⟨(some 18), .load 1 false (.t 17), (some (16, true))⟩,
 ⟨(some 19), .mov (.t 1), (some (16, true))⟩,
 ⟨(some 20), .idx 1 (.t 18) (.t 19), (some (16, true))⟩,
 ⟨(some 21), .load 1 false (.t 20), (some (16, true))⟩,
 ⟨(some 22), .mov (.t 2), (some (16, true))⟩,
 ⟨(some 23), .call 26 [(.t 21), (.t 22)], (some (16, true))⟩,
 ⟨(some 24), .bin .geq (.t 23) (.k (.int .i64 0)), (some (16, true))⟩,
 ⟨(some 25), .pick (.t 16) (.t 24) (.k (.bool false)), none⟩,
 ⟨(some 6), .mov (.t 25), none⟩])
 .ret))
theorem a49 : Go.Proofs.Try.f49.body.bind (comp Go.Proofs.Try.prog) = some A49 := by kernel_rfl
theorem r49 : compRVs Go.Proofs.Try.prog Go.Proofs.Try.f49.results.toList = some [.tmp 6] := by kernel_rfl
theorem n49 : (Go.Proofs.Try.f49.name == "runtime.NumGoroutine") = false := by decide +kernel
def E49 : Nat × ACode × Nat × List RV := (49, A49, 26, [.tmp 6])
theorem e49 : EntryOk Go.Proofs.Try.prog E49 := ⟨Go.Proofs.Try.f49, Go.Proofs.Try.func49, n49, a49, Go.Proofs.Try.ntmps49, r49⟩
/-! reedpen/gdef.Codes -/
def A51 : ACode :=
 (.seq
 (.reg [
 ⟨(some 6), .mov (.k (.vec true [])), none⟩,
 ⟨(some 7), .mov (.k (.bool false)), none⟩])
 (.scope
 (.seq
 (.seq
 (.reg [
 ⟨(some 21), .mov (.t 2), none⟩,
 ⟨(some 22), .bin .lss (.t 21) (.k (.int .i64 0)), none⟩,
 ⟨(some 23), .mov (.t 22), none⟩,
 ⟨(some 24), .mov (.t 2), (some (23, false))⟩,
 ⟨(some 25), .bin .gtr (.t 24) (.k (.int .i64 65536)), (some (23, false))⟩,
 ⟨(some 26), .pick (.t 23) (.k (.bool true)) (.t 25), none⟩])
 (.cond (.t 26)
 (.seq
 (.reg [
 ⟨(some 6), .mov (.k (.vec true [])), none⟩,
 ⟨(some 7), .mov (.k (.bool false)), none⟩])
 .ret)
 .skip))
 (.seq
 (.reg [
 ⟨(some 28), .mov (.t 0), none⟩,
 ⟨(some 29), .mov (.t 1), none⟩,
 ⟨(some 30), .call 57 [(.t 28), (.t 29)], none⟩,
 ⟨(some 27), .mov (.t 30), none⟩,
 ⟨(some 31), .ext 0 (.t 27), none⟩,
 ⟨(some 32), .ext 1 (.t 27), none⟩,
 ⟨(some 8), .mov (.t 31), none⟩,
 ⟨(some 9), .mov (.t 32), none⟩])
 (.seq
 (.reg [
 ⟨(some 34), .mov (.t 0), none⟩,
 ⟨(some 35), .mov (.t 1), none⟩,
 ⟨(some 36), .bin .add (.t 35) (.k (.int .i64 2)), none⟩,
 ⟨(some 37), .call 57 [(.t 34), (.t 36)], none⟩,
 ⟨(some 33), .mov (.t 37), none⟩,
 ⟨(some 38), .ext 0 (.t 33), none⟩,
 ⟨(some 39), .ext 1 (.t 33), none⟩,
 ⟨(some 10), .mov (.t 38), none⟩,
 ⟨(some 11), .mov (.t 39), none⟩])
 (.seq
 (.seq
 (.reg [
 ⟨(some 40), .mov (.t 11), none⟩,
 ⟨(some 41), .un .not (.t 40), none⟩,
 ⟨(some 42), .mov (.t 41), none⟩,
 ⟨(some 43), .mov (.t 8), (some (42, false))⟩,
 ⟨(some 44), .bin .neq (.t 43) (.k (.int .i64 0)), (some (42, false))⟩,
 ⟨(some 45), .pick (.t 42) (.k (.bool true)) (.t 44), none⟩,
 ⟨(some 46), .mov (.t 45), none⟩,
 ⟨(some 47), .mov (.t 10), (some (46, false))⟩,
 ⟨(some 48), .bin .gtr (.t 47) (.k (.int .i64 64)), (some (46, false))⟩,
 ⟨(some 49), .pick (.t 46) (.k (.bool true)) (.t 48), none⟩])
 (.cond (.t 49)
 (.seq
 (.reg [
 ⟨(some 6), .mov (.k (.vec true [])), none⟩,
 ⟨(some 7), .mov (.k (.bool false)), none⟩])
 .ret)
 .skip))
 (.seq
 (.reg [
 ⟨(some 50), .build [(.int .i64 0), (.int .i64 0)] [(0, 1, (.k (.int .i64 (-1)))), (1, 1, (.k (.int .i64 (-1))))], none⟩,
 ⟨(some 12), .new [(.int .i64 0), (.int .i64 0)] 110, none⟩,
 ⟨none, .store 2 (.t 12) (.t 50), none⟩])
 (.seq
 (.label 0)
 (.seq
 (.seq
 (.reg [
 ⟨(some 51), .mov (.t 10), none⟩,
 ⟨(some 52), .mov (.k (.int .i64 0)), none⟩])
 (.block 0
 (.loop
 (.seq
 (.reg [
 ⟨(some 53), .bin .lss (.t 52) (.t 51), none⟩])
 (.seq
 (.cond (.t 53)
 .skip
 (.exit 0))
 (.seq
 (.block 1
 (.seq
 (.reg [
 ⟨(some 54), .mov (.t 52), none⟩,
 ⟨(some 13), .mov (.t 54), none⟩])
 (.seq
 (.reg [
 ⟨(some 56), .mov (.t 0), none⟩,
 ⟨(some 57), .mov (.t 1), none⟩,
 ⟨(some 58), .bin .add (.t 57) (.k (.int .i64 4)), none⟩,
 ⟨(some 59), .mov (.t 13), none⟩,
 ⟨(some 60), .bin .mul (.k (.int .i64 8)) (.t 59), none⟩,
 ⟨(some 61), .bin .add (.t 58) (.t 60), none⟩,
 ⟨(some 62), .bin .add (.t 61) (.k (.int .i64 4)), none⟩,
 ⟨(some 63), .call 70 [(.t 56), (.t 62)], none⟩,
 ⟨(some 55), .mov (.t 63), none⟩,
 ⟨(some 64), .ext 0 (.t 55), none⟩,
 ⟨(some 65), .ext 1 (.t 55), none⟩,
 ⟨(some 14), .mov (.t 64), none⟩,
 ⟨(some 15), .mov (.t 65), none⟩])
 (.seq
 (.seq
 (.reg [
 ⟨(some 66), .mov (.t 15), none⟩,
 ⟨(some 67), .un .not (.t 66), none⟩,
 ⟨(some 68), .mov (.t 67), none⟩,
 ⟨(some 69), .mov (.t 14), (some (68, false))⟩,
 ⟨(some 70), .mov (.t 0), (some (68, false))⟩,
 ⟨(some 71), .len false (.t 70), (some (68, false))⟩,
 ⟨(some 72), .bin .gtr (.t 69) (.t 71), (some (68, false))⟩,
 ⟨(some 73), .pick (.t 68) (.k (.bool true)) (.t 72), none⟩])
 (.cond (.t 73)
 (.seq
 (.reg [
 ⟨(some 6), .mov (.k (.vec true [])), none⟩,
 ⟨(some 7), .mov (.k (.bool false)), none⟩])
 .ret)
 .skip))
 (.seq
 (.reg [
 ⟨(some 75), .mov (.t 0), none⟩,
 ⟨(some 76), .mov (.t 1), none⟩,
 ⟨(some 77), .mov (.t 14), none⟩,
 ⟨(some 78), .bin .add (.t 76) (.t 77), none⟩,
 ⟨(some 79), .call 57 [(.t 75), (.t 78)], none⟩,
 ⟨(some 74), .mov (.t 79), none⟩,
 ⟨(some 80), .ext 0 (.t 74), none⟩,
 ⟨(some 81), .ext 1 (.t 74), none⟩,
 ⟨(some 16), .mov (.t 80), none⟩,
 ⟨(some 17), .mov (.t 81), none⟩])
 (.seq
 (.seq
 (.reg [
 ⟨(some 82), .mov (.t 17), none⟩,
 ⟨(some 83), .un .not (.t 82), none⟩])
 (.cond (.t 83)
 (.seq
 (.reg [
 ⟨(some 6), .mov (.k (.vec true [])), none⟩,
 ⟨(some 7), .mov (.k (.bool false)), none⟩])
 .ret)
 .skip))
 (.seq
 (.reg [
 ⟨(some 18), .mov (.k (.int .i64 0)), none⟩])
 (.seq
 (.seq
 (.reg [
 ⟨(some 84), .mov (.t 16), none⟩])
 (.block 2
 (.seq
 (.reg [
 ⟨(some 86), .bin .eql (.t 84) (.k (.int .i64 12)), none⟩,
 ⟨(some 85), .mov (.t 86), none⟩])
 (.cond (.t 85)
 .skip
 (.seq
 (.reg [
 ⟨(some 88), .bin .eql (.t 84) (.k (.int .i64 4)), none⟩,
 ⟨(some 87), .mov (.t 88), none⟩])
 (.cond (.t 87)
 (.reg [
 ⟨(some 18), .mov (.k (.int .i64 1)), none⟩])
 (.exit 1)))))))
 (.seq
 (.reg [
 ⟨(some 89), .mov (.t 18), none⟩,
 ⟨(some 90), .idxa 1 2 (.t 12) (.t 89), none⟩,
 ⟨(some 91), .load 1 false (.t 90), none⟩,
 ⟨(some 92), .bin .lss (.t 91) (.k (.int .i64 0)), none⟩])
 (.cond (.t 92)
 (.reg [
 ⟨(some 93), .mov (.t 18), none⟩,
 ⟨(some 94), .mov (.t 1), none⟩,
 ⟨(some 95), .mov (.t 14), none⟩,
 ⟨(some 96), .bin .add (.t 94) (.t 95), none⟩,
 ⟨(some 97), .idxa 1 2 (.t 12) (.t 93), none⟩,
 ⟨none, .store 1 (.t 97) (.t 96), none⟩])
 .skip))))))))))
 (.reg [
 ⟨(some 98), .bin .add (.t 52) (.k (.int .i64 1)), none⟩,
 ⟨(some 52), .mov (.t 98), none⟩])))))))
 (.seq
 (.reg [
 ⟨(some 99), .mov (.t 2), none⟩,
 ⟨(some 100), .build [(.vec true []), (.int .i64 0)] [(1, 1, (.t 99))], none⟩,
 ⟨(some 101), .box (.t 100) 113, none⟩,
 ⟨(some 19), .mov (.t 101), none⟩])
 (.seq
 (.reg [
 ⟨(some 20), .mov (.k (.bool true)), none⟩])
 (.seq
 (.block 3
 (.seq
 (.reg [
 ⟨(some 103), .idxa 1 2 (.t 12) (.k (.int .i64 0)), none⟩,
 ⟨(some 104), .load 1 false (.t 103), none⟩,
 ⟨(some 105), .bin .geq (.t 104) (.k (.int .i64 0)), none⟩,
 ⟨(some 102), .mov (.t 105), none⟩])
 (.cond (.t 102)
 (.reg [
 ⟨(some 106), .mov (.t 19), none⟩,
 ⟨(some 107), .mov (.t 0), none⟩,
 ⟨(some 108), .idxa 1 2 (.t 12) (.k (.int .i64 0)), none⟩,
 ⟨(some 109), .load 1 false (.t 108), none⟩,
 ⟨(some 110), .call 75 [(.t 106), (.t 107), (.t 109)], none⟩,
 ⟨(some 20), .mov (.t 110), none⟩])
 (.seq
 (.reg [
 ⟨(some 112), .idxa 1 2 (.t 12) (.k (.int .i64 1)), none⟩,
 ⟨(some 113), .load 1 false (.t 112), none⟩,
 ⟨(some 114), .bin .geq (.t 113) (.k (.int .i64 0)), none⟩,
 ⟨(some 111), .mov (.t 114), none⟩])
 (.cond (.t 111)
 (.reg [
 ⟨(some 115), .mov (.t 19), none⟩,
 ⟨(some 116), .mov (.t 0), none⟩,
 ⟨(some 117), .idxa 1 2 (.t 12) (.k (.int .i64 1)), none⟩,
 ⟨(some 118), .load 1 false (.t 117), none⟩,
 ⟨(some 119), .call 76 [(.t 115), (.t 116), (.t 118)], none⟩,
 ⟨(some 20), .mov (.t 119), none⟩])
 .skip)))))
 (.seq
 (.seq
 (.reg [
 ⟨(some 120), .mov (.t 20), none⟩,
 ⟨(some 121), .un .not (.t 120), none⟩])
 (.cond (.t 121)
 (.seq
 (.reg [
 ⟨(some 6), .mov (.k (.vec true [])), none⟩,
 ⟨(some 7), .mov (.k (.bool false)), none⟩])
 .ret)
 .skip))
 (.seq
 (.reg [
 ⟨(some 122), .mov (.t 19), none⟩,
 ⟨(some 123), .nchk (.t 122), none⟩,
 ⟨(some 124), .fld 0 (.t 123), none⟩,
 ⟨(some 125), .load 1 false (.t 124), none⟩,
 ⟨(some 6), .mov (.t 125), none⟩,
 ⟨(some 7), .mov (.k (.bool true)), none⟩])
 .ret))))))))))))))
theorem a51 : Go.Proofs.Try.f51.body.bind (comp Go.Proofs.Try.prog) = some A51 := by kernel_rfl
theorem r51 : compRVs Go.Proofs.Try.prog Go.Proofs.Try.f51.results.toList = some [.tmp 6, .tmp 7] := by kernel_rfl
theorem n51 : (Go.Proofs.Try.f51.name == "runtime.NumGoroutine") = false := by decide +kernel
def E51 : Nat × ACode × Nat × List RV := (51, A51, 126, [.tmp 6, .tmp 7])
theorem e51 : EntryOk Go.Proofs.Try.prog E51 := ⟨Go.Proofs.Try.f51, Go.Proofs.Try.func51, n51, a51, Go.Proofs.Try.ntmps51, r51⟩
/-! reedpen/reedpenref15.Groups -/
def A52 : ACode :=
 (.seq
 (.reg [
 ⟨(some 4), .mov (.k (.bool false)), none⟩])
 (.seq
 (.seq
 (.reg [
 ⟨(some 6), .mov (.t 0), none⟩,
 ⟨(some 7), .len false (.t 6), none⟩,
 ⟨(some 8), .mov (.t 1), none⟩,
 ⟨(some 9), .len false (.t 8), none⟩,
 ⟨(some 10), .bin .neq (.t 7) (.t 9), none⟩])
 (.cond (.t 10)
 (.seq
 (.reg [
 ⟨(some 4), .mov (.k (.bool false)), none⟩])
 .ret)
 .skip))
 (.seq
 (.seq
 (.reg [
 ⟨(some 5), .mov (.k (.int .i64 0)), none⟩])
 (.block 0
 (.loop
 (.seq
 (.seq
 (.reg [
 ⟨(some 11), .mov (.t 5), none⟩,
 ⟨(some 12), .mov (.t 0), none⟩,
 ⟨(some 13), .len false (.t 12), none⟩,
 ⟨(some 14), .bin .lss (.t 11) (.t 13), none⟩])
 (.cond (.t 14)
 .skip
 (.exit 0)))
 (.seq
 (.block 1
 (.seq
 (.regd [
 ⟨⟨(some 17), .mov (.t 0), none⟩, 0, [], false⟩,
 ⟨⟨(some 18), .mov (.t 5), none⟩, 1, [], false⟩,
 ⟨⟨(some 19), .idx 3 (.t 17) (.t 18), none⟩, 2, [], false⟩,
 ⟨⟨(some 20), .load 3 true (.t 19), none⟩, 3, [], false⟩,
 ⟨⟨(some 21), .mov (.t 1), none⟩, 4, [], false⟩,
 ⟨⟨(some 22), .mov (.t 5), none⟩, 5, [], false⟩,
 ⟨⟨(some 23), .idx 3 (.t 21) (.t 22), none⟩, 6, [], false⟩,
 ⟨⟨(some 24), .load 3 true (.t 23), none⟩, 7, [], false⟩,
 ⟨⟨(some 25), .eqs true [0, 0, 0] (.t 20) (.t 24), none⟩, 8, [], false⟩])
 (.cond (.t 25)
 (.seq
 (.reg [
 ⟨(some 4), .mov (.k (.bool false)), none⟩])
 .ret)
 .skip)))
 (.reg [
 ⟨(some 15), .mov (.t 5), none⟩,
 ⟨(some 16), .bin .add (.t 15) (.k (.int .i64 1)), none⟩,
 ⟨(some 5), .mov (.t 16), none⟩]))))))
 (.seq
 (.reg [
 ⟨(some 4), .mov (.k (.bool true)), none⟩])
 .ret))))
theorem a52 : Go.Proofs.Try.f52.body.bind (comp Go.Proofs.Try.prog) = some A52 := by kernel_rfl
theorem r52 : compRVs Go.Proofs.Try.prog Go.Proofs.Try.f52.results.toList = some [.tmp 4] := by kernel_rfl
theorem n52 : (Go.Proofs.Try.f52.name == "runtime.NumGoroutine") = false := by decide +kernel
def E52 : Nat × ACode × Nat × List RV := (52, A52, 26, [.tmp 4])
theorem e52 : EntryOk Go.Proofs.Try.prog E52 := ⟨Go.Proofs.Try.f52, Go.Proofs.Try.func52, n52, a52, Go.Proofs.Try.ntmps52, r52⟩
/-! reedpen/cover.format -/
def A53 : ACode :=
 (.seq
 (.reg [
 ⟨(some 4), .mov (.k (.int .i64 0)), none⟩])
 (.seq
 (.reg [
 ⟨(some 8), .mov (.t 0), none⟩,
 ⟨(some 9), .mov (.t 1), none⟩,
 ⟨(some 10), .call 57 [(.t 8), (.t 9)], none⟩,
 ⟨(some 7), .mov (.t 10), none⟩,
 ⟨(some 11), .ext 0 (.t 7), none⟩,
 ⟨(some 12), .ext 1 (.t 7), none⟩,
 ⟨(some 5), .mov (.t 11), none⟩,
 ⟨(some 6), .mov (.t 12), none⟩])
 (.seq
 (.seq
 (.reg [
 ⟨(some 13), .mov (.t 6), none⟩,
 ⟨(some 14), .un .not (.t 13), none⟩])
 (.cond (.t 14)
 (.seq
 (.reg [
 ⟨(some 4), .mov (.k (.int .i64 0)), none⟩])
 .ret)
 .skip))
 (.seq
 (.reg [
 ⟨(some 15), .mov (.t 5), none⟩,
 ⟨(some 4), .mov (.t 15), none⟩])
 .ret))))
theorem a53 : Go.Proofs.Try.f53.body.bind (comp Go.Proofs.Try.prog) = some A53 := by kernel_rfl
theorem r53 : compRVs Go.Proofs.Try.prog Go.Proofs.Try.f53.results.toList = some [.tmp 4] := by kernel_rfl
theorem n53 : (Go.Proofs.Try.f53.name == "runtime.NumGoroutine") = false := by decide +kernel
def E53 : Nat × ACode × Nat × List RV := (53, A53, 16, [.tmp 4])
theorem e53 : EntryOk Go.Proofs.Try.prog E53 := ⟨Go.Proofs.Try.f53, Go.Proofs.Try.func53, n53, a53, Go.Proofs.Try.ntmps53, r53⟩
/-! reedpen/cover.glyphs -/
def A54 : ACode :=
 (.seq
 (.reg [
 ⟨(some 4), .mov (.k (.vec true [])), none⟩,
 ⟨(some 5), .mov (.k (.bool false)), none⟩])
 (.seq
 (.reg [
 ⟨(some 15), .mov (.t 0), none⟩,
 ⟨(some 16), .mov (.t 1), none⟩,
 ⟨(some 17), .bin .add (.t 16) (.k (.int .i64 2)), none⟩,
 ⟨(some 18), .call 57 [(.t 15), (.t 17)], none⟩,
 ⟨(some 14), .mov (.t 18), none⟩,
 ⟨(some 19), .ext 0 (.t 14), none⟩,
 ⟨(some 20), .ext 1 (.t 14), none⟩,
 ⟨(some 6), .mov (.t 19), none⟩,
 ⟨(some 7), .mov (.t 20), none⟩])
 (.seq
 (.reg [
 ⟨(some 22), .mov (.t 0), none⟩,
 ⟨(some 23), .mov (.t 1), none⟩,
 ⟨(some 24), .bin .add (.t 23) (.k (.int .i64 4)), none⟩,
 ⟨(some 25), .mov (.t 6), none⟩,
 ⟨(some 26), .call 58 [(.t 22), (.t 24), (.t 25), (.k (.int .i64 2))], none⟩,
 ⟨(some 21), .mov (.t 26), none⟩,
 ⟨(some 27), .ext 0 (.t 21), none⟩,
 ⟨(some 28), .ext 1 (.t 21), none⟩,
 ⟨(some 8), .mov (.t 27), none⟩,
 ⟨(some 9), .mov (.t 28), none⟩])
 (.seq
 (.seq
 (.reg [
 ⟨(some 29), .mov (.t 7), none⟩,
 ⟨(some 30), .un .not (.t 29), none⟩,
 ⟨(some 31), .mov (.t 30), none⟩,
 ⟨(some 32), .mov (.t 9), (some (31, false))⟩,
 ⟨(some 33), .un .not (.t 32), (some (31, false))⟩,
 ⟨(some 34), .pick (.t 31) (.k (.bool true)) (.t 33), none⟩])
 (.cond (.t 34)
 (.seq
 (.reg [
 ⟨(some 4), .mov (.k (.vec true [])), none⟩,
 ⟨(some 5), .mov (.k (.bool false)), none⟩])
 .ret)
 .skip))
 (.seq
 (.reg [
 ⟨(some 10), .mov (.k (.vec true [])), none⟩])
 (.seq
 (.reg [
 ⟨(some 11), .mov (.k (.int .i64 (-1))), none⟩])
 (.seq
 (.seq
 (.reg [
 ⟨(some 35), .mov (.t 8), none⟩,
 ⟨(some 36), .len false (.t 35), none⟩,
 ⟨(some 37), .mov (.k (.int .i64 0)), none⟩])
 (.block 0
 (.loop
 (.seq
 (.reg [
 ⟨(some 38), .bin .lss (.t 37) (.t 36), none⟩])
 (.seq
 (.cond (.t 38)
 .skip
 (.exit 0))
 (.seq
 (.block 1
 (.seq
 (.reg [
 ⟨(some 39), .idx 1 (.t 35) (.t 37), none⟩,
 ⟨(some 40), .load 1 false (.t 39), none⟩,
 ⟨(some 13), .mov (.t 40), none⟩])
 (.seq
 (.seq
 (.reg [
 ⟨(some 41), .mov (.t 13), none⟩,
 ⟨(some 42), .mov (.t 11), none⟩,
 ⟨(some 43), .bin .leq (.t 41) (.t 42), none⟩])
 (.cond (.t 43)
 (.seq
 (.reg [
 ⟨(some 4), .mov (.k (.vec true [])), none⟩,
 ⟨(some 5), .mov (.k (.bool false)), none⟩])
 .ret)
 .skip))
 (.seq
 (.reg [
 ⟨(some 44), .mov (.t 13), none⟩,
 ⟨(some 11), .mov (.t 44), none⟩])
 (.reg [
 ⟨(some 45), .mov (.t 10), none⟩,
 ⟨(some 46), .mov (.t 13), none⟩,
 ⟨(some 47), .mov (.t 13), none⟩,
 ⟨(some 48), .build [(.int .i64 0), (.int .i64 0)] [(0, 1, (.t 46)), (1, 1, (.t 47))], none⟩,
 ⟨(some 49), .call 61 [(.t 45), (.t 48)], none⟩,
 ⟨(some 10), .mov (.t 49), none⟩])))))
 (.reg [
 ⟨(some 50), .bin .add (.t 37) (.k (.int .i64 1)), none⟩,
 ⟨(some 37), .mov (.t 50), none⟩])))))))
 (.seq
 (.reg [
 ⟨(some 51), .mov (.t 10), none⟩,
 ⟨(some 4), .mov (.t 51), none⟩,
 ⟨(some 5), .mov (.k (.bool true)), none⟩])
 .ret))))))))
theorem a54 : Go.Proofs.Try.f54.body.bind (comp Go.Proofs.Try.prog) = some A54 := by kernel_rfl
theorem r54 : compRVs Go.Proofs.Try.prog Go.Proofs.Try.f54.results.toList = some [.tmp 4, .tmp 5] := by kernel_rfl
theorem n54 : (Go.Proofs.Try.f54.name == "runtime.NumGoroutine") = false := by decide +kernel
def E54 : Nat × ACode × Nat × List RV := (54, A54, 52, [.tmp 4, .tmp 5])
theorem e54 : EntryOk Go.Proofs.Try.prog E54 := ⟨Go.Proofs.Try.f54, Go.Proofs.Try.func54, n54, a54, Go.Proofs.Try.ntmps54, r54⟩
/-! reedpen/cover.ranges -/
def A55 : ACode :=
 (.seq
 (.reg [
 ⟨(some 4), .mov (.k (.vec true [])), none⟩,
 ⟨(some 5), .mov (.k (.bool false)), none⟩])
 (.seq
 (.reg [
 ⟨(some 13), .mov (.t 0), none⟩,
 ⟨(some 14), .mov (.t 1), none⟩,
 ⟨(some 15), .call 60 [(.t 13), (.t 14)], none⟩,
 ⟨(some 12), .mov (.t 15), none⟩,
 ⟨(some 16), .ext 0 (.t 12), none⟩,
 ⟨(some 17), .ext 1 (.t 12), none⟩,
 ⟨(some 6), .mov (.t 16), none⟩,
 ⟨(some 7), .mov (.t 17), none⟩])
 (.seq
 (.seq
 (.reg [
 ⟨(some 18), .mov (.t 7), none⟩,
 ⟨(some 19), .un .not (.t 18), none⟩])
 (.cond (.t 19)
 (.seq
 (.reg [
 ⟨(some 4), .mov (.k (.vec true [])), none⟩,
 ⟨(some 5), .mov (.k (.bool false)), none⟩])
 .ret)
 .skip))
 (.seq
 (.reg [
 ⟨(some 8), .mov (.k (.vec true [])), none⟩])
 (.seq
 (.reg [
 ⟨(some 9), .mov (.k (.int .i64 0)), none⟩])
 (.seq
 (.seq
 (.reg [
 ⟨(some 20), .mov (.t 6), none⟩,
 ⟨(some 21), .len false (.t 20), none⟩,
 ⟨(some 22), .mov (.k (.int .i64 0)), none⟩])
 (.block 0
 (.loop
 (.seq
 (.reg [
 ⟨(some 23), .bin .lss (.t 22) (.t 21), none⟩])
 (.seq
 (.cond (.t 23)
 .skip
 (.exit 0))
 (.seq
 (.block 1
 (.seq
 (.reg [
 ⟨(some 24), .idx 3 (.t 20) (.t 22), none⟩,
 ⟨(some 25), .load 3 true (.t 24), none⟩,
 ⟨(some 11), .new [(.int .i64 0), (.int .i64 0), (.int .i64 0)] 97, none⟩,
 ⟨none, .store 3 (.t 11) (.t 25), none⟩])
 (.seq
 (.seq
 (.reg [
 ⟨(some 26), .idxa 1 3 (.t 11) (.k (.int .i64 2)), none⟩,
 ⟨(some 27), .load 1 false (.t 26), none⟩,
 ⟨(some 28), .mov (.t 9), none⟩,
 ⟨(some 29), .bin .neq (.t 27) (.t 28), none⟩])
 (.cond (.t 29)
 (.seq
 (.reg [
 ⟨(some 4), .mov (.k (.vec true [])), none⟩,
 ⟨(some 5), .mov (.k (.bool false)), none⟩])
 .ret)
 .skip))
 (.seq
 (.reg [
 ⟨(some 30), .mov (.t 9), none⟩,
 ⟨(some 31), .idxa 1 3 (.t 11) (.k (.int .i64 1)), none⟩,
 ⟨(some 32), .load 1 false (.t 31), none⟩,
 ⟨(some 33), .idxa 1 3 (.t 11) (.k (.int .i64 0)), none⟩,
 ⟨(some 34), .load 1 false (.t 33), none⟩,
 ⟨(some 35), .bin .sub (.t 32) (.t 34), none⟩,
 ⟨(some 36), .bin .add (.t 35) (.k (.int .i64 1)), none⟩,
 ⟨(some 37), .bin .add (.t 30) (.t 36), none⟩,
 ⟨(some 9), .mov (.t 37), none⟩])
 (.reg [
 ⟨(some 38), .mov (.t 8), none⟩,
 ⟨(some 39), .idxa 1 3 (.t 11) (.k (.int .i64 0)), none⟩,
 ⟨(some 40), .load 1 false (.t 39), none⟩,
 ⟨(some 41), .idxa 1 3 (.t 11) (.k (.int .i64 1)), none⟩,
 ⟨(some 42), .load 1 false (.t 41), none⟩,
 ⟨(some 43), .build [(.int .i64 0), (.int .i64 0)] [(0, 1, (.t 40)), (1, 1, (.t 42))], none⟩,
 ⟨(some 44), .call 61 [(.t 38), (.t 43)], none⟩,
 ⟨(some 8), .mov (.t 44), none⟩])))))
 (.reg [
 ⟨(some 45), .bin .add (.t 22) (.k (.int .i64 1)), none⟩,
 ⟨(some 22), .mov (.t 45), none⟩])))))))
 (.seq
 (.reg [
 ⟨(some 46), .mov (.t 8), none⟩,
 ⟨(some 4), .mov (.t 46), none⟩,
 ⟨(some 5), .mov (.k (.bool true)), none⟩])
 .ret)))))))
theorem a55 : Go.Proofs.Try.f55.body.bind (comp Go.Proofs.Try.prog) = some A55 := by kernel_rfl
theorem r55 : compRVs Go.Proofs.Try.prog Go.Proofs.Try.f55.results.toList = some [.tmp 4, .tmp 5] := by kernel_rfl
theorem n55 : (Go.Proofs.Try.f55.name == "runtime.NumGoroutine") = false := by decide +kernel
def E55 : Nat × ACode × Nat × List RV := (55, A55, 47, [.tmp 4, .tmp 5])
theorem e55 : EntryOk Go.Proofs.Try.prog E55 := ⟨Go.Proofs.Try.f55, Go.Proofs.Try.func55, n55, a55, Go.Proofs.Try.ntmps55, r55⟩
/-! reedpen/octet.U16 -/
def A57 : ACode :=
 (.seq
 (.reg [
 ⟨(some 4), .mov (.k (.int .i64 0)), none⟩,
 ⟨(some 5), .mov (.k (.bool false)), none⟩])
 (.seq
 (.reg [
 ⟨(some 6), .mov (.t 0), none⟩,
 ⟨(some 7), .mov (.t 1), none⟩,
 ⟨(some 8), .call 77 [(.t 6), (.t 7), (.k (.int .i64 2))], none⟩,
 ⟨(some 9), .ext 0 (.t 8), none⟩,
 ⟨(some 10), .ext 1 (.t 8), none⟩,
 ⟨(some 4), .mov (.t 9), none⟩,
 ⟨(some 5), .mov (.t 10), none⟩])
 .ret))
theorem a57 : Go.Proofs.Try.f57.body.bind (comp Go.Proofs.Try.prog) = some A57 := by kernel_rfl
theorem r57 : compRVs Go.Proofs.Try.prog Go.Proofs.Try.f57.results.toList = some [.tmp 4, .tmp 5] := by kernel_rfl
theorem n57 : (Go.Proofs.Try.f57.name == "runtime.NumGoroutine") = false := by decide +kernel
def E57 : Nat × ACode × Nat × List RV := (57, A57, 11, [.tmp 4, .tmp 5])
theorem e57 : EntryOk Go.Proofs.Try.prog E57 := ⟨Go.Proofs.Try.f57, Go.Proofs.Try.func57, n57, a57, Go.Proofs.Try.ntmps57, r57⟩
/-! reedpen/octet.Row -/
def A58 : ACode :=
 (.seq
 (.reg [
 ⟨(some 4), .box (.t 0) 22, none⟩,
 ⟨(some 5), .box (.t 1) 3, none⟩,
 ⟨(some 7), .box (.t 3) 3, none⟩,
 ⟨(some 8), .mov (.k (.vec true [])), none⟩,
 ⟨(some 9), .mov (.k (.bool false)), none⟩])
 (.seq
 (.seq
 (.reg [
 ⟨(some 10), .load 1 false (.t 7), none⟩])
 (.block 0
 (.seq
 (.seq
 (.reg [
 ⟨(some 12), .bin .eql (.t 10) (.k (.int .i64 1)), none⟩,
 ⟨(some 11), .mov (.t 12), none⟩])
 (.cond (.t 11)
 .skip
 (.seq
 (.reg [
 ⟨(some 13), .bin .eql (.t 10) (.k (.int .i64 2)), none⟩,
 ⟨(some 11), .mov (.t 13), none⟩])
 (.cond (.t 11)
 .skip
 (.reg [
 ⟨(some 14), .bin .eql (.t 10) (.k (.int .i64 4)), none⟩,
 ⟨(some 11), .mov (.t 14), none⟩])))))
 (.cond (.t 11)
 .skip
 (.seq
 (.reg [
 ⟨(some 8), .mov (.k (.vec true [])), none⟩,
 ⟨(some 9), .mov (.k (.bool false)), none⟩])
 .ret)))))
 (.seq
 (.seq
 (.reg [
 ⟨(some 15), .mov (.t 2), none⟩,
 ⟨(some 16), .bin .lss (.t 15) (.k (.int .i64 0)), none⟩,
 ⟨(some 17), .mov (.t 16), none⟩,
 ⟨(some 18), .mov (.t 2), (some (17, false))⟩,
 ⟨(some 19), .load 1 false (.t 4), (some (17, false))⟩,
 ⟨(some 20), .len false (.t 19), (some (17, false))⟩,
 ⟨(some 21), .bin .gtr (.t 18) (.t 20), (some (17, false))⟩,
 ⟨(some 22), .pick (.t 17) (.k (.bool true)) (.t 21), none⟩,
 ⟨(some 23), .mov (.t 22), none⟩,
 ⟨(some 24), .load 1 false (.t 4), (some (23, false))⟩,
 ⟨(some 25), .load 1 false (.t 5), (some (23, false))⟩,
 ⟨(some 26), .mov (.t 2), (some (23, false))⟩,
 ⟨(some 27), .load 1 false (.t 7), (some (23, false))⟩,
 ⟨(some 28), .bin .mul (.t 26) (.t 27), (some (23, false))⟩,
 ⟨(some 29), .call 71 [(.t 24), (.t 25), (.t 28)], (some (23, false))⟩,
 ⟨(some 30), .un .not (.t 29), (some (23, false))⟩,
 ⟨(some 31), .pick (.t 23) (.k (.bool true)) (.t 30), none⟩])
 (.cond (.t 31)
 (.seq
 (.reg [
 ⟨(some 8), .mov (.k (.vec true [])), none⟩,
 ⟨(some 9), .mov (.k (.bool false)), none⟩])
 .ret)
 .skip))
 (.seq
 (.reg [
 ⟨(some 32), .mov (.t 2), none⟩,
 ⟨(some 33), .mkfn (.func 79) [] [(.t 4), (.t 5), (.t 7)], none⟩,
 ⟨(some 34), .call 78 [(.t 32), (.t 33)], none⟩,
 ⟨(some 8), .mov (.t 34), none⟩,
 ⟨(some 9), .mov (.k (.bool true)), none⟩])
 .ret))))
theorem a58 : Go.Proofs.Try.f58.body.bind (comp Go.Proofs.Try.prog) = some A58 := by kernel_rfl
theorem r58 : compRVs Go.Proofs.Try.prog Go.Proofs.Try.f58.results.toList = some [.tmp 8, .tmp 9] := by kernel_rfl
theorem n58 : (Go.Proofs.Try.f58.name == "runtime.NumGoroutine") = false := by decide +kernel
def E58 : Nat × ACode × Nat × List RV := (58, A58, 35, [.tmp 8, .tmp 9])
theorem e58 : EntryOk Go.Proofs.Try.prog E58 := ⟨Go.Proofs.Try.f58, Go.Proofs.Try.func58, n58, a58, Go.Proofs.Try.ntmps58, r58⟩
/-! reedpen/cover.classed -/
def A59 : ACode :=
 (.seq
 (.reg [
 ⟨(some 3), .box (.t 1) 48, none⟩,
 ⟨(some 4), .mov (.k (.vec true [])), none⟩])
 (.seq
 (.seq
 (.reg [
 ⟨(some 6), .fld 2 (.t 3), none⟩,
 ⟨(some 7), .load 1 false (.t 6), none⟩,
 ⟨(some 8), .bin .eql (.t 7) (.k (.int .i64 0)), none⟩])
 (.cond (.t 8)
 (.seq
 (.reg [
 ⟨(some 9), .mov (.t 0), none⟩,
 ⟨(some 4), .mov (.t 9), none⟩])
 .ret)
 .skip))
 (.seq
 (.seq
 (.reg [
 ⟨(some 10), .mov (.t 0), none⟩,
 ⟨(some 11), .len false (.t 10), none⟩,
 ⟨(some 5), .mov (.t 11), none⟩])
 (.seq
 (.regd [
 ⟨⟨(some 12), .mov (.t 5), none⟩, 0, [], false⟩,
 ⟨⟨(some 13), .bin .gtr (.t 12) (.k (.int .i64 0)), none⟩, 1, [], false⟩,
 ⟨⟨(some 14), .mov (.t 13), none⟩, 2, [], false⟩,
 ⟨⟨(some 15), .mov (.t 0), (some (14, true))⟩, 3, [], false⟩,
 ⟨⟨(some 16), .mov (.t 5), (some (14, true))⟩, 4, [], false⟩,
 ⟨⟨(some 17), .bin .sub (.t 16) (.k (.int .i64 1)), (some (14, true))⟩, 5, [], false⟩,
 ⟨⟨(some 18), .idx 3 (.t 15) (.t 17), (some (14, true))⟩, 6, [], false⟩,
 ⟨⟨(some 19), .fld 1 (.t 18), (some (14, true))⟩, 7, [], false⟩,
 ⟨⟨(some 20), .load 1 false (.t 19), (some (14, true))⟩, 8, [], false⟩,
 ⟨⟨(some 21), .bin .add (.t 20) (.k (.int .i64 1)), (some (14, true))⟩, 9, [], false⟩,
 ⟨⟨(some 22), .fld 0 (.t 3), (some (14, true))⟩, 10, [], false⟩,
 ⟨⟨(some 23), .load 1 false (.t 22), (some (14, true))⟩, 11, [], false⟩,
 ⟨⟨(some 24), .bin .eql (.t 21) (.t 23), (some (14, true))⟩, 12, [], false⟩,
 ⟨⟨(some 25), .pick (.t 14) (.t 24) (.k (.bool false)), none⟩, 13, [], false⟩,
 ⟨⟨(some 26), .mov (.t 25), none⟩, 14, [], false⟩,
 ⟨⟨(some 27), .mov (.t 0), (some (26, true))⟩, 15, [], false⟩,
 ⟨⟨(some 28), .mov (.t 5), (some (26, true))⟩, 16, [], false⟩,
 ⟨⟨(some 29), .bin .sub (.t 28) (.k (.int .i64 1)), (some (26, true))⟩, 17, [], false⟩,
 ⟨⟨(some 30), .idx 3 (.t 27) (.t 29), (some (26, true))⟩, 18, [], false⟩,
 ⟨⟨(some 31), .fld 2 (.t 30), (some (26, true))⟩, 19, [], false⟩,
 ⟨⟨(some 32), .load 1 false (.t 31), (some (26, true))⟩, 20, [], false⟩,
 ⟨⟨(some 33), .fld 2 (.t 3), (some (26, true))⟩, 21, [], false⟩,
 ⟨⟨(some 34), .load 1 false (.t 33), (some (26, true))⟩, 22, [], false⟩,
 ⟨⟨(some 35), .bin .eql (.t 32) (.t 34), (some (26, true))⟩, 23, [], false⟩,
 ⟨⟨(some 36), .pick (.t 26) (.t 35) (.k (.bool false)), none⟩, 24, [], false⟩])
 (.cond (.t 36)
 (.seq
 (.reg [
 ⟨(some 37), .mov (.t 0), none⟩,
 ⟨(some 38), .mov (.t 5), none⟩,
 ⟨(some 39), .bin .sub (.t 38) (.k (.int .i64 1)), none⟩,
 ⟨(some 40), .fld 1 (.t 3), none⟩,
 ⟨(some 41), .load 1 false (.t 40), none⟩,
 ⟨(some 42), .idx 3 (.t 37) (.t 39), none⟩,
 ⟨(some 43), .fld 1 (.t 42), none⟩,
 ⟨none, .store 1 (.t 43) (.t 41), none⟩])
 (.seq
 (.reg [
 ⟨(some 44), .mov (.t 0), none⟩,
 ⟨(some 4), .mov (.t 44), none⟩])
 .ret))
 .skip)))
 (.seq
 (.reg [
 ⟨(some 45), .mov (.t 0), none⟩,
 ⟨(some 46), .load 3 true (.t 3), none⟩,
 ⟨(some 47), .lits 3 48 [(.t 46)], none⟩,
 ⟨(some 48), .app 3 24 48 (.t 45) (.t 47), none⟩,
 ⟨(some 4), .mov (.t 48), none⟩])
 .ret))))
theorem a59 : Go.Proofs.Try.f59.body.bind (comp Go.Proofs.Try.prog) = some A59 := by kernel_rfl
theorem r59 : compRVs Go.Proofs.Try.prog Go.Proofs.Try.f59.results.toList = some [.tmp 4] := by kernel_rfl
theorem n59 : (Go.Proofs.Try.f59.name == "runtime.NumGoroutine") = false := by decide +kernel
def E59 : Nat × ACode × Nat × List RV := (59, A59, 49, [.tmp 4])
theorem e59 : EntryOk Go.Proofs.Try.prog E59 := ⟨Go.Proofs.Try.f59, Go.Proofs.Try.func59, n59, a59, Go.Proofs.Try.ntmps59, r59⟩
/-! reedpen/cover.triples -/
def A60 : ACode :=
 (.seq
 (.reg [
 ⟨(some 4), .mov (.k (.vec true [])), none⟩,
 ⟨(some 5), .mov (.k (.bool false)), none⟩])
 (.seq
 (.reg [
 ⟨(some 15), .mov (.t 0), none⟩,
 ⟨(some 16), .mov (.t 1), none⟩,
 ⟨(some 17), .bin .add (.t 16) (.k (.int .i64 2)), none⟩,
 ⟨(some 18), .call 57 [(.t 15), (.t 17)], none⟩,
 ⟨(some 14), .mov (.t 18), none⟩,
 ⟨(some 19), .ext 0 (.t 14), none⟩,
 ⟨(some 20), .ext 1 (.t 14), none⟩,
 ⟨(some 6), .mov (.t 19), none⟩,
 ⟨(some 7), .mov (.t 20), none⟩])
 (.seq
 (.reg [
 ⟨(some 22), .mov (.t 0), none⟩,
 ⟨(some 23), .mov (.t 1), none⟩,
 ⟨(some 24), .bin .add (.t 23) (.k (.int .i64 4)), none⟩,
 ⟨(some 25), .mov (.t 6), none⟩,
 ⟨(some 26), .bin .mul (.k (.int .i64 3)) (.t 25), none⟩,
 ⟨(some 27), .call 58 [(.t 22), (.t 24), (.t 26), (.k (.int .i64 2))], none⟩,
 ⟨(some 21), .mov (.t 27), none⟩,
 ⟨(some 28), .ext 0 (.t 21), none⟩,
 ⟨(some 29), .ext 1 (.t 21), none⟩,
 ⟨(some 8), .mov (.t 28), none⟩,
 ⟨(some 9), .mov (.t 29), none⟩])
 (.seq
 (.seq
 (.reg [
 ⟨(some 30), .mov (.t 7), none⟩,
 ⟨(some 31), .un .not (.t 30), none⟩,
 ⟨(some 32), .mov (.t 31), none⟩,
 ⟨(some 33), .mov (.t 9), (some (32, false))⟩,
 ⟨(some 34), .un .not (.t 33), (some (32, false))⟩,
 ⟨(some 35), .pick (.t 32) (.k (.bool true)) (.t 34), none⟩])
 (.cond (.t 35)
 (.seq
 (.reg [
 ⟨(some 4), .mov (.k (.vec true [])), none⟩,
 ⟨(some 5), .mov (.k (.bool false)), none⟩])
 .ret)
 .skip))
 (.seq
 (.reg [
 ⟨(some 10), .mov (.k (.vec true [])), none⟩])
 (.seq
 (.reg [
 ⟨(some 11), .mov (.k (.int .i64 (-1))), none⟩])
 (.seq
 (.seq
 (.reg [
 ⟨(some 12), .mov (.k (.int .i64 0)), none⟩])
 (.block 0
 (.loop
 (.seq
 (.seq
 (.reg [
 ⟨(some 36), .mov (.t 12), none⟩,
 ⟨(some 37), .mov (.t 8), none⟩,
 ⟨(some 38), .len false (.t 37), none⟩,
 ⟨(some 39), .bin .lss (.t 36) (.t 38), none⟩])
 (.cond (.t 39)
 .skip
 (.exit 0)))
 (.seq
 (.block 1
 (.seq
 (.regd [
 ⟨⟨(some 42), .mov (.t 8), none⟩, 0, [], false⟩,
 ⟨⟨(some 43), .mov (.t 12), none⟩, 1, [], false⟩,
 ⟨⟨(some 44), .idx 1 (.t 42) (.t 43), none⟩, 2, [], true⟩,
 ⟨⟨(some 45), .load 1 false (.t 44), none⟩, 3, [], true⟩,
 ⟨⟨(some 46), .mov (.t 8), none⟩, 4, [], false⟩,
 ⟨⟨(some 47), .mov (.t 12), none⟩, 5, [], false⟩,
 ⟨⟨(some 48), .bin .add (.t 47) (.k (.int .i64 1)), none⟩, 6, [], false⟩,
 ⟨⟨(some 49), .idx 1 (.t 46) (.t 48), none⟩, 7, [], true⟩,
 ⟨⟨(some 50), .load 1 false (.t 49), none⟩, 8, [], true⟩,
 ⟨⟨(some 51), .mov (.t 8), none⟩, 9, [], false⟩,
 ⟨⟨(some 52), .mov (.t 12), none⟩, 10, [], false⟩,
 ⟨⟨(some 53), .bin .add (.t 52) (.k (.int .i64 2)), none⟩, 11, [], false⟩,
 ⟨⟨(some 54), .idx 1 (.t 51) (.t 53), none⟩, 12, [], true⟩,
 ⟨⟨(some 55), .load 1 false (.t 54), none⟩, 13, [], true⟩,
 ⟨⟨(some 56), .build [(.int .i64 0), (.int .i64 0), (.int .i64 0)] [(0, 1, (.t 45)), (1, 1, (.t 50)), (2, 1, (.t 55))], none⟩, 14, [], false⟩,
 ⟨⟨(some 13), .new [(.int .i64 0), (.int .i64 0), (.int .i64 0)] 97, none⟩, 15, [], false⟩,
 ⟨⟨none, .store 3 (.t 13) (.t 56), none⟩, 16, [15, 14, 3, 2, 0, 1, 8, 7, 4, 6, 5, 13, 12, 9, 11, 10], false⟩])
 (.seq
 (.seq
 (.reg [
 ⟨(some 57), .idxa 1 3 (.t 13) (.k (.int .i64 0)), none⟩,
 ⟨(some 58), .load 1 false (.t 57), none⟩,
 ⟨(some 59), .mov (.t 11), none⟩,
 ⟨(some 60), .bin .leq (.t 58) (.t 59), none⟩,
 ⟨(some 61), .mov (.t 60), none⟩,
 ⟨(some 62), .idxa 1 3 (.t 13) (.k (.int .i64 1)), (some (61, false))⟩,
 ⟨(some 63), .load 1 false (.t 62), (some (61, false))⟩,
 ⟨(some 64), .idxa 1 3 (.t 13) (.k (.int .i64 0)), (some (61, false))⟩,
 ⟨(some 65), .load 1 false (.t 64), (some (61, false))⟩,
 ⟨(some 66), .bin .lss (.t 63) (.t 65), (some (61, false))⟩,
 ⟨(some 67), .pick (.t 61) (.k (.bool true)) (.t 66), none⟩])
 (.cond (.t 67)
 (.seq
 (.reg [
 ⟨(some 4), .mov (.k (.vec true [])), none⟩,
 ⟨(some 5), .mov (.k (.bool false)), none⟩])
 .ret)
 .skip))
 (.seq
 (.reg [
 ⟨(some 68), .idxa 1 3 (.t 13) (.k (.int .i64 1)), none⟩,
 ⟨(some 69), .load 1 false (.t 68), none⟩,
 ⟨(some 11), .mov (.t 69), none⟩])
 (.reg [
 ⟨(some 70), .mov (.t 10), none⟩,
 ⟨(some 71), .load 3 true (.t 13), none⟩,
 ⟨(some 72), .lits 3 97 [(.t 71)], none⟩,
 ⟨(some 73), .app 3 24 97 (.t 70) (.t 72), none⟩,
 ⟨(some 10), .mov (.t 73), none⟩])))))
 (.reg [
 ⟨(some 40), .mov (.t 12), none⟩,
 ⟨(some 41), .bin .add (.t 40) (.k (.int .i64 3)), none⟩,
 ⟨(some 12), .mov (.t 41), none⟩]))))))
 (.seq
 (.reg [
 ⟨(some 74), .mov (.t 10), none⟩,
 ⟨(some 4), .mov (.t 74), none⟩,
 ⟨(some 5), .mov (.k (.bool true)), none⟩])
 .ret))))))))
theorem a60 : Go.Proofs.Try.f60.body.bind (comp Go.Proofs.Try.prog) = some A60 := by kernel_rfl
theorem r60 : compRVs Go.Proofs.Try.prog Go.Proofs.Try.f60.results.toList = some [.tmp 4, .tmp 5] := by kernel_rfl
theorem n60 : (Go.Proofs.Try.f60.name == "runtime.NumGoroutine") = false := by decide +kernel
def E60 : Nat × ACode × Nat × List RV := (60, A60, 75, [.tmp 4, .tmp 5])
theorem e60 : EntryOk Go.Proofs.Try.prog E60 := ⟨Go.Proofs.Try.f60, Go.Proofs.Try.func60, n60, a60, Go.Proofs.Try.ntmps60, r60⟩
/-! reedpen/cover.joined -/
def A61 : ACode :=
 (.seq
 (.reg [
 ⟨(some 3), .box (.t 1) 38, none⟩,
 ⟨(some 4), .mov (.k (.vec true [])), none⟩])
 (.seq
 (.seq
 (.reg [
 ⟨(some 6), .mov (.t 0), none⟩,
 ⟨(some 7), .len false (.t 6), none⟩,
 ⟨(some 5), .mov (.t 7), none⟩])
 (.seq
 (.regd [
 ⟨⟨(some 8), .mov (.t 5), none⟩, 0, [], false⟩,
 ⟨⟨(some 9), .bin .gtr (.t 8) (.k (.int .i64 0)), none⟩, 1, [], false⟩,
 ⟨⟨(some 10), .mov (.t 9), none⟩, 2, [], false⟩,
 ⟨⟨(some 11), .mov (.t 0), (some (10, true))⟩, 3, [], false⟩,
 ⟨⟨(some 12), .mov (.t 5), (some (10, true))⟩, 4, [], false⟩,
 ⟨⟨(some 13), .bin .sub (.t 12) (.k (.int .i64 1)), (some (10, true))⟩, 5, [], false⟩,
 ⟨⟨(some 14), .idx 2 (.t 11) (.t 13), (some (10, true))⟩, 6, [], false⟩,
 ⟨⟨(some 15), .fld 1 (.t 14), (some (10, true))⟩, 7, [], false⟩,
 ⟨⟨(some 16), .load 1 false (.t 15), (some (10, true))⟩, 8, [], false⟩,
 ⟨⟨(some 17), .bin .add (.t 16) (.k (.int .i64 1)), (some (10, true))⟩, 9, [], false⟩,
 ⟨⟨(some 18), .fld 0 (.t 3), (some (10, true))⟩, 10, [], false⟩,
 ⟨⟨(some 19), .load 1 false (.t 18), (some (10, true))⟩, 11, [], false⟩,
 ⟨⟨(some 20), .bin .eql (.t 17) (.t 19), (some (10, true))⟩, 12, [], false⟩,
 ⟨⟨(some 21), .pick (.t 10) (.t 20) (.k (.bool false)), none⟩, 13, [], false⟩])
 (.cond (.t 21)
 (.seq
 (.reg [
 ⟨(some 22), .mov (.t 0), none⟩,
 ⟨(some 23), .mov (.t 5), none⟩,
 ⟨(some 24), .bin .sub (.t 23) (.k (.int .i64 1)), none⟩,
 ⟨(some 25), .fld 1 (.t 3), none⟩,
 ⟨(some 26), .load 1 false (.t 25), none⟩,
 ⟨(some 27), .idx 2 (.t 22) (.t 24), none⟩,
 ⟨(some 28), .fld 1 (.t 27), none⟩,
 ⟨none, .store 1 (.t 28) (.t 26), none⟩])
 (.seq
 (.reg [
 ⟨(some 29), .mov (.t 0), none⟩,
 ⟨(some 4), .mov (.t 29), none⟩])
 .ret))
 .skip)))
 (.seq
 (.reg [
 ⟨(some 30), .mov (.t 0), none⟩,
 ⟨(some 31), .load 2 true (.t 3), none⟩,
 ⟨(some 32), .lits 2 38 [(.t 31)], none⟩,
 ⟨(some 33), .app 2 16 38 (.t 30) (.t 32), none⟩,
 ⟨(some 4), .mov (.t 33), none⟩])
 .ret)))
theorem a61 : Go.Proofs.Try.f61.body.bind (comp Go.Proofs.Try.prog) = some A61 := by kernel_rfl
theorem r61 : compRVs Go.Proofs.Try.prog Go.Proofs.Try.f61.results.toList = some [.tmp 4] := by kernel_rfl
theorem n61 : (Go.Proofs.Try.f61.name == "runtime.NumGoroutine") = false := by decide +kernel
def E61 : Nat × ACode × Nat × List RV := (61, A61, 34, [.tmp 4])
theorem e61 : EntryOk Go.Proofs.Try.prog E61 := ⟨Go.Proofs.Try.f61, Go.Proofs.Try.func61, n61, a61, Go.Proofs.Try.ntmps61, r61⟩
/-! reedpen/octet.U32 -/
def A70 : ACode :=
 (.seq
 (.reg [
 ⟨(some 4), .mov (.k (.int .i64 0)), none⟩,
 ⟨(some 5), .mov (.k (.bool false)), none⟩])
 (.seq
 (.reg [
 ⟨(some 6), .mov (.t 0), none⟩,
 ⟨(some 7), .mov (.t 1), none⟩,
 ⟨(some 8), .call 77 [(.t 6), (.t 7), (.k (.int .i64 4))], none⟩,
 ⟨(some 9), .ext 0 (.t 8), none⟩,
 ⟨(some 10), .ext 1 (.t 8), none⟩,
 ⟨(some 4), .mov (.t 9), none⟩,
 ⟨(some 5), .mov (.t 10), none⟩])
 .ret))
theorem a70 : Go.Proofs.Try.f70.body.bind (comp Go.Proofs.Try.prog) = some A70 := by kernel_rfl
theorem r70 : compRVs Go.Proofs.Try.prog Go.Proofs.Try.f70.results.toList = some [.tmp 4, .tmp 5] := by kernel_rfl
theorem n70 : (Go.Proofs.Try.f70.name == "runtime.NumGoroutine") = false := by decide +kernel
def E70 : Nat × ACode × Nat × List RV := (70, A70, 11, [.tmp 4, .tmp 5])
theorem e70 : EntryOk Go.Proofs.Try.prog E70 := ⟨Go.Proofs.Try.f70, Go.Proofs.Try.func70, n70, a70, Go.Proofs.Try.ntmps70, r70⟩
/-! reedpen/octet.Within -/
def A71 : ACode :=
 (.seq
 (.reg [
 ⟨(some 6), .mov (.k (.bool false)), none⟩])
 (.seq
 (.reg [
 ⟨(some 7), .mov (.t 1), none⟩,
 ⟨(some 8), .bin .geq (.t 7) (.k (.int .i64 0)), none⟩,
 ⟨(some 9), .mov (.t 8), none⟩,
 ⟨(some 10), .mov (.t 2), (some (9, true))⟩,
 ⟨(some 11), .bin .geq (.t 10) (.k (.int .i64 0)), (some (9, true))⟩,
 ⟨(some 12), .pick (.t 9) (.t 11) (.k (.bool false)), none⟩,
 ⟨(some 13), .mov (.t 12), none⟩,
 ⟨(some 14), .mov (.t 2), (some (13, true))⟩,
 ⟨(some 15), .mov (.t 0), (some (13, true))⟩,
 ⟨(some 16), .len false (.t 15), (some (13, true))⟩,
 ⟨(some 17), .bin .leq (.t 14) (.t 16), (some (13, true))⟩,
 ⟨(some 18), .pick (.t 13) (.t 17) (.k (.bool false)), none⟩,
 ⟨(some 19), .mov (.t 18), none⟩,
 ⟨(some 20), .mov (.t 1), (some (19, true))⟩,
 ⟨(some 21), .mov (.t 0), (some (19, true))⟩,
 ⟨(some 22), .len false (.t 21), (some (19, true))⟩,
 ⟨(some 23), .mov (.t 2), (some (19, true))⟩,
 ⟨(some 24), .bin .sub (.t 22) (.t 23), (some (19, true))⟩,
 ⟨(some 25), .bin .leq (.t 20) (.t 24), (some (19, true))⟩,
 ⟨(some 26), .pick (.t 19) (.t 25) (.k (.bool false)), none⟩,
 ⟨(some 6), .mov (.t 26), none⟩])
 .ret))
theorem a71 : Go.Proofs.Try.f71.body.bind (comp Go.Proofs.Try.prog) = some A71 := by kernel_rfl
theorem r71 : compRVs Go.Proofs.Try.prog Go.Proofs.Try.f71.results.toList = some [.tmp 6] := by kernel_rfl
theorem n71 : (Go.Proofs.Try.f71.name == "runtime.NumGoroutine") = false := by decide +kernel
def E71 : Nat × ACode × Nat × List RV := (71, A71, 27, [.tmp 6])
theorem e71 : EntryOk Go.Proofs.Try.prog E71 := ⟨Go.Proofs.Try.f71, Go.Proofs.Try.func71, n71, a71, Go.Proofs.Try.ntmps71, r71⟩
/-! reedpen/gdef.classes -/
def A72 : ACode :=
 (.seq
 (.reg [
 ⟨(some 6), .mov (.k (.vec true [])), none⟩,
 ⟨(some 7), .mov (.k (.bool false)), none⟩])
 (.seq
 (.reg [
 ⟨(some 11), .mov (.t 0), none⟩,
 ⟨(some 12), .mov (.t 2), none⟩,
 ⟨(some 13), .call 57 [(.t 11), (.t 12)], none⟩,
 ⟨(some 10), .mov (.t 13), none⟩,
 ⟨(some 14), .ext 0 (.t 10), none⟩,
 ⟨(some 15), .ext 1 (.t 10), none⟩,
 ⟨(some 8), .mov (.t 14), none⟩,
 ⟨(some 9), .mov (.t 15), none⟩])
 (.seq
 (.seq
 (.reg [
 ⟨(some 16), .mov (.t 9), none⟩,
 ⟨(some 17), .un .not (.t 16), none⟩,
 ⟨(some 18), .mov (.t 17), none⟩,
 ⟨(some 19), .mov (.t 8), (some (18, false))⟩,
 ⟨(some 20), .bin .eql (.t 19) (.k (.int .i64 0)), (some (18, false))⟩,
 ⟨(some 21), .pick (.t 18) (.k (.bool true)) (.t 20), none⟩])
 (.cond (.t 21)
 (.seq
 (.reg [
 ⟨(some 22), .mov (.t 9), none⟩,
 ⟨(some 6), .mov (.k (.vec true [])), none⟩,
 ⟨(some 7), .mov (.t 22), none⟩])
 .ret)
 .skip))
 (.seq
 (.reg [
 ⟨(some 23), .mov (.t 0), none⟩,
 ⟨(some 24), .mov (.t 1), none⟩,
 ⟨(some 25), .mov (.t 8), none⟩,
 ⟨(some 26), .bin .add (.t 24) (.t 25), none⟩,
 ⟨(some 27), .call 20 [(.t 23), (.t 26)], none⟩,
 ⟨(some 28), .ext 0 (.t 27), none⟩,
 ⟨(some 29), .ext 1 (.t 27), none⟩,
 ⟨(some 6), .mov (.t 28), none⟩,
 ⟨(some 7), .mov (.t 29), none⟩])
 .ret))))
theorem a72 : Go.Proofs.Try.f72.body.bind (comp Go.Proofs.Try.prog) = some A72 := by kernel_rfl
theorem r72 : compRVs Go.Proofs.Try.prog Go.Proofs.Try.f72.results.toList = some [.tmp 6, .tmp 7] := by kernel_rfl
theorem n72 : (Go.Proofs.Try.f72.name == "runtime.NumGoroutine") = false := by decide +kernel
def E72 : Nat × ACode × Nat × List RV := (72, A72, 30, [.tmp 6, .tmp 7])
theorem e72 : EntryOk Go.Proofs.Try.prog E72 := ⟨Go.Proofs.Try.f72, Go.Proofs.Try.func72, n72, a72, Go.Proofs.Try.ntmps72, r72⟩
/-! reedpen/gdef.sets -/
def A73 : ACode :=
 (.seq
 (.reg [
 ⟨(some 6), .mov (.k (.vec true [])), none⟩,
 ⟨(some 7), .mov (.k (.bool false)), none⟩])
 (.seq
 (.reg [
 ⟨(some 22), .mov (.t 0), none⟩,
 ⟨(some 23), .mov (.t 2), none⟩,
 ⟨(some 24), .call 57 [(.t 22), (.t 23)], none⟩,
 ⟨(some 21), .mov (.t 24), none⟩,
 ⟨(some 25), .ext 0 (.t 21), none⟩,
 ⟨(some 26), .ext 1 (.t 21), none⟩,
 ⟨(some 8), .mov (.t 25), none⟩,
 ⟨(some 9), .mov (.t 26), none⟩])
 (.seq
 (.seq
 (.reg [
 ⟨(some 27), .mov (.t 9), none⟩,
 ⟨(some 28), .un .not (.t 27), none⟩,
 ⟨(some 29), .mov (.t 28), none⟩,
 ⟨(some 30), .mov (.t 8), (some (29, false))⟩,
 ⟨(some 31), .bin .eql (.t 30) (.k (.int .i64 0)), (some (29, false))⟩,
 ⟨(some 32), .pick (.t 29) (.k (.bool true)) (.t 31), none⟩])
 (.cond (.t 32)
 (.seq
 (.reg [
 ⟨(some 33), .mov (.t 9), none⟩,
 ⟨(some 6), .mov (.k (.vec true [])), none⟩,
 ⟨(some 7), .mov (.t 33), none⟩])
 .ret)
 .skip))
 (.seq
 (.reg [
 ⟨(some 34), .mov (.t 1), none⟩,
 ⟨(some 35), .mov (.t 8), none⟩,
 ⟨(some 36), .bin .add (.t 34) (.t 35), none⟩,
 ⟨(some 1), .mov (.t 36), none⟩])
 (.seq
 (.reg [
 ⟨(some 38), .mov (.t 0), none⟩,
 ⟨(some 39), .mov (.t 1), none⟩,
 ⟨(some 40), .call 57 [(.t 38), (.t 39)], none⟩,
 ⟨(some 37), .mov (.t 40), none⟩,
 ⟨(some 41), .ext 0 (.t 37), none⟩,
 ⟨(some 42), .ext 1 (.t 37), none⟩,
 ⟨(some 10), .mov (.t 41), none⟩,
 ⟨(some 11), .mov (.t 42), none⟩])
 (.seq
 (.reg [
 ⟨(some 44), .mov (.t 0), none⟩,
 ⟨(some 45), .mov (.t 1), none⟩,
 ⟨(some 46), .bin .add (.t 45) (.k (.int .i64 2)), none⟩,
 ⟨(some 47), .call 57 [(.t 44), (.t 46)], none⟩,
 ⟨(some 43), .mov (.t 47), none⟩,
 ⟨(some 48), .ext 0 (.t 43), none⟩,
 ⟨(some 49), .ext 1 (.t 43), none⟩,
 ⟨(some 12), .mov (.t 48), none⟩,
 ⟨(some 13), .mov (.t 49), none⟩])
 (.seq
 (.reg [
 ⟨(some 51), .mov (.t 0), none⟩,
 ⟨(some 52), .mov (.t 1), none⟩,
 ⟨(some 53), .bin .add (.t 52) (.k (.int .i64 4)), none⟩,
 ⟨(some 54), .mov (.t 12), none⟩,
 ⟨(some 55), .call 58 [(.t 51), (.t 53), (.t 54), (.k (.int .i64 4))], none⟩,
 ⟨(some 50), .mov (.t 55), none⟩,
 ⟨(some 56), .ext 0 (.t 50), none⟩,
 ⟨(some 57), .ext 1 (.t 50), none⟩,
 ⟨(some 14), .mov (.t 56), none⟩,
 ⟨(some 15), .mov (.t 57), none⟩])
 (.seq
 (.seq
 (.reg [
 ⟨(some 58), .mov (.t 10), none⟩,
 ⟨(some 59), .bin .neq (.t 58) (.k (.int .i64 1)), none⟩,
 ⟨(some 60), .mov (.t 59), none⟩,
 ⟨(some 61), .mov (.t 12), (some (60, false))⟩,
 ⟨(some 62), .bin .gtr (.t 61) (.k (.int .i64 64)), (some (60, false))⟩,
 ⟨(some 63), .pick (.t 60) (.k (.bool true)) (.t 62), none⟩,
 ⟨(some 64), .mov (.t 63), none⟩,
 ⟨(some 65), .mov (.t 15), (some (64, false))⟩,
 ⟨(some 66), .un .not (.t 65), (some (64, false))⟩,
 ⟨(some 67), .pick (.t 64) (.k (.bool true)) (.t 66), none⟩])
 (.cond (.t 67)
 (.seq
 (.reg [
 ⟨(some 6), .mov (.k (.vec true [])), none⟩,
 ⟨(some 7), .mov (.k (.bool false)), none⟩])
 .ret)
 .skip))
 (.seq
 (.reg [
 ⟨(some 16), .mov (.k (.vec true [])), none⟩])
 (.seq
 (.seq
 (.reg [
 ⟨(some 68), .mov (.t 14), none⟩,
 ⟨(some 69), .len false (.t 68), none⟩,
 ⟨(some 70), .mov (.k (.int .i64 0)), none⟩])
 (.block 0
 (.loop
 (.seq
 (.reg [
 ⟨(some 71), .bin .lss (.t 70) (.t 69), none⟩])
 (.seq
 (.cond (.t 71)
 .skip
 (.exit 0))
 (.seq
 (.block 1
 (.seq
 (.reg [
 ⟨(some 72), .idx 1 (.t 68) (.t 70), none⟩,
 ⟨(some 73), .load 1 false (.t 72), none⟩,
 ⟨(some 18), .mov (.t 73), none⟩])
 (.seq
 (.seq
 (.reg [
 ⟨(some 74), .mov (.t 18), none⟩,
 ⟨(some 75), .mov (.t 0), none⟩,
 ⟨(some 76), .len false (.t 75), none⟩,
 ⟨(some 77), .bin .gtr (.t 74) (.t 76), none⟩])
 (.cond (.t 77)
 (.seq
 (.reg [
 ⟨(some 6), .mov (.k (.vec true [])), none⟩,
 ⟨(some 7), .mov (.k (.bool false)), none⟩])
 .ret)
 .skip))
 (.seq
 (.reg [
 ⟨(some 79), .mov (.t 0), none⟩,
 ⟨(some 80), .mov (.t 1), none⟩,
 ⟨(some 81), .mov (.t 18), none⟩,
 ⟨(some 82), .bin .add (.t 80) (.t 81), none⟩,
 ⟨(some 83), .call 18 [(.t 79), (.t 82)], none⟩,
 ⟨(some 78), .mov (.t 83), none⟩,
 ⟨(some 84), .ext 0 (.t 78), none⟩,
 ⟨(some 85), .ext 1 (.t 78), none⟩,
 ⟨(some 19), .mov (.t 84), none⟩,
 ⟨(some 20), .mov (.t 85), none⟩])
 (.seq
 (.seq
 (.reg [
 ⟨(some 86), .mov (.t 20), none⟩,
 ⟨(some 87), .un .not (.t 86), none⟩])
 (.cond (.t 87)
 (.seq
 (.reg [
 ⟨(some 6), .mov (.k (.vec true [])), none⟩,
 ⟨(some 7), .mov (.k (.bool false)), none⟩])
 .ret)
 .skip))
 (.reg [
 ⟨(some 88), .mov (.t 16), none⟩,
 ⟨(some 89), .mov (.t 19), none⟩,
 ⟨(some 90), .lits 1 24 [(.t 89)], none⟩,
 ⟨(some 91), .app 1 24 24 (.t 88) (.t 90), none⟩,
 ⟨(some 16), .mov (.t 91), none⟩]))))))
 (.reg [
 ⟨(some 92), .bin .add (.t 70) (.k (.int .i64 1)), none⟩,
 ⟨(some 70), .mov (.t 92), none⟩])))))))
 (.seq
 (.reg [
 ⟨(some 93), .mov (.t 16), none⟩,
 ⟨(some 6), .mov (.t 93), none⟩,
 ⟨(some 7), .mov (.k (.bool true)), none⟩])
 .ret)))))))))))
theorem a73 : Go.Proofs.Try.f73.body.bind (comp Go.Proofs.Try.prog) = some A73 := by kernel_rfl
theorem r73 : compRVs Go.Proofs.Try.prog Go.Proofs.Try.f73.results.toList = some [.tmp 6, .tmp 7] := by kernel_rfl
theorem n73 : (Go.Proofs.Try.f73.name == "runtime.NumGoroutine") = false := by decide +kernel
def E73 : Nat × ACode × Nat × List RV := (73, A73, 94, [.tmp 6, .tmp 7])
theorem e73 : EntryOk Go.Proofs.Try.prog E73 := ⟨Go.Proofs.Try.f73, Go.Proofs.Try.func73, n73, a73, Go.Proofs.Try.ntmps73, r73⟩
/-! (*reedpen/gdef.list).wide -/
def A75 : ACode :=
 (.seq
 (.reg [
 ⟨(some 6), .mov (.k (.bool false)), none⟩])
 (.seq
 (.reg [
 ⟨(some 16), .mov (.t 1), none⟩,
 ⟨(some 17), .mov (.t 2), none⟩,
 ⟨(some 18), .bin .add (.t 17) (.k (.int .i64 12)), none⟩,
 ⟨(some 19), .call 70 [(.t 16), (.t 18)], none⟩,
 ⟨(some 15), .mov (.t 19), none⟩,
 ⟨(some 20), .ext 0 (.t 15), none⟩,
 ⟨(some 21), .ext 1 (.t 15), none⟩,
 ⟨(some 7), .mov (.t 20), none⟩,
 ⟨(some 8), .mov (.t 21), none⟩])
 (.seq
 (.seq
 (.reg [
 ⟨(some 22), .mov (.t 8), none⟩,
 ⟨(some 23), .un .not (.t 22), none⟩,
 ⟨(some 24), .mov (.t 23), none⟩,
 ⟨(some 25), .mov (.t 7), (some (24, false))⟩,
 ⟨(some 26), .bin .gtr (.t 25) (.k (.int .i64 5000)), (some (24, false))⟩,
 ⟨(some 27), .pick (.t 24) (.k (.bool true)) (.t 26), none⟩])
 (.cond (.t 27)
 (.seq
 (.reg [
 ⟨(some 6), .mov (.k (.bool false)), none⟩])
 .ret)
 .skip))
 (.seq
 (.reg [
 ⟨(some 29), .mov (.t 1), none⟩,
 ⟨(some 30), .mov (.t 2), none⟩,
 ⟨(some 31), .bin .add (.t 30) (.k (.int .i64 16)), none⟩,
 ⟨(some 32), .mov (.t 7), none⟩,
 ⟨(some 33), .bin .mul (.k (.int .i64 3)) (.t 32), none⟩,
 ⟨(some 34), .call 58 [(.t 29), (.t 31), (.t 33), (.k (.int .i64 4))], none⟩,
 ⟨(some 28), .mov (.t 34), none⟩,
 ⟨(some 35), .ext 0 (.t 28), none⟩,
 ⟨(some 36), .ext 1 (.t 28), none⟩,
 ⟨(some 9), .mov (.t 35), none⟩,
 ⟨(some 10), .mov (.t 36), none⟩])
 (.seq
 (.reg [
 ⟨(some 11), .mov (.k (.int .i64 (-1))), none⟩])
 (.seq
 (.seq
 (.reg [
 ⟨(some 12), .mov (.k (.int .i64 0)), none⟩])
 (.block 0
 (.loop
 (.seq
 (.seq
 (.reg [
 ⟨(some 37), .mov (.t 12), none⟩,
 ⟨(some 38), .bin .add (.t 37) (.k (.int .i64 2)), none⟩,
 ⟨(some 39), .mov (.t 9), none⟩,
 ⟨(some 40), .len false (.t 39), none⟩,
 ⟨(some 41), .bin .lss (.t 38) (.t 40), none⟩])
 (.cond (.t 41)
 .skip
 (.exit 0)))
 (.seq
 (.block 1
 (.seq
 (.regd [
 ⟨⟨(some 44), .mov (.t 9), none⟩, 0, [], false⟩,
 ⟨⟨(some 45), .mov (.t 12), none⟩, 1, [], false⟩,
 ⟨⟨(some 46), .idx 1 (.t 44) (.t 45), none⟩, 2, [], false⟩,
 ⟨⟨(some 47), .load 1 false (.t 46), none⟩, 3, [], false⟩,
 ⟨⟨(some 48), .mov (.t 9), none⟩, 4, [], false⟩,
 ⟨⟨(some 49), .mov (.t 12), none⟩, 5, [], false⟩,
 ⟨⟨(some 50), .bin .add (.t 49) (.k (.int .i64 1)), none⟩, 6, [], false⟩,
 ⟨⟨(some 51), .idx 1 (.t 48) (.t 50), none⟩, 7, [], false⟩,
 ⟨⟨(some 52), .load 1 false (.t 51), none⟩, 8, [], false⟩,
 ⟨⟨(some 13), .mov (.t 47), none⟩, 9, [], false⟩,
 ⟨⟨(some 14), .mov (.t 52), none⟩, 10, [], false⟩])
 (.seq
 (.seq
 (.reg [
 ⟨(some 53), .mov (.t 13), none⟩,
 ⟨(some 54), .mov (.t 11), none⟩,
 ⟨(some 55), .bin .leq (.t 53) (.t 54), none⟩,
 ⟨(some 56), .mov (.t 55), none⟩,
 ⟨(some 57), .mov (.t 14), (some (56, false))⟩,
 ⟨(some 58), .mov (.t 13), (some (56, false))⟩,
 ⟨(some 59), .bin .lss (.t 57) (.t 58), (some (56, false))⟩,
 ⟨(some 60), .pick (.t 56) (.k (.bool true)) (.t 59), none⟩,
 ⟨(some 61), .mov (.t 60), none⟩,
 ⟨(some 62), .mov (.t 14), (some (61, false))⟩,
 ⟨(some 63), .bin .gtr (.t 62) (.k (.int .i64 1114111)), (some (61, false))⟩,
 ⟨(some 64), .pick (.t 61) (.k (.bool true)) (.t 63), none⟩])
 (.cond (.t 64)
 (.seq
 (.reg [
 ⟨(some 6), .mov (.k (.bool false)), none⟩])
 .ret)
 .skip))
 (.seq
 (.reg [
 ⟨(some 65), .mov (.t 14), none⟩,
 ⟨(some 11), .mov (.t 65), none⟩])
 (.reg [
 ⟨(some 66), .mov (.t 0), none⟩,
 ⟨(some 67), .mov (.t 13), none⟩,
 ⟨(some 68), .mov (.t 14), none⟩,
 ⟨(some 69), .mov (.t 9), none⟩,
 ⟨(some 70), .mov (.t 12), none⟩,
 ⟨(some 71), .bin .add (.t 70) (.k (.int .i64 2)), none⟩,
 ⟨(some 72), .idx 1 (.t 69) (.t 71), none⟩,
 ⟨(some 73), .load 1 false (.t 72), none⟩,
 ⟨(some 74), .call 91 [(.t 66), (.t 67), (.t 68), (.t 73)], none⟩])))))
 (.reg [
 ⟨(some 42), .mov (.t 12), none⟩,
 ⟨(some 43), .bin .add (.t 42) (.k (.int .i64 3)), none⟩,
 ⟨(some 12), .mov (.t 43), none⟩]))))))
 (.seq
 (.reg [
 ⟨(some 75), .mov (.t 10), none⟩,
 ⟨(some 6), .mov (.t 75), none⟩])
 .ret)))))))
theorem a75 : Go.Proofs.Try.f75.body.bind (comp Go.Proofs.Try.prog) = some A75 := by kernel_rfl
theorem r75 : compRVs Go.Proofs.Try.prog Go.Proofs.Try.f75.results.toList = some [.tmp 6] := by kernel_rfl
theorem n75 : (Go.Proofs.Try.f75.name == "runtime.NumGoroutine") = false := by decide +kernel
def E75 : Nat × ACode × Nat × List RV := (75, A75, 76, [.tmp 6])
theorem e75 : EntryOk Go.Proofs.Try.prog E75 := ⟨Go.Proofs.Try.f75, Go.Proofs.Try.func75, n75, a75, Go.Proofs.Try.ntmps75, r75⟩
/-! (*reedpen/gdef.list).segments -/
def A76 : ACode :=
 (.seq
 (.reg [
 ⟨(some 6), .mov (.k (.bool false)), none⟩])
 (.seq
 (.reg [
 ⟨(some 17), .mov (.t 1), none⟩,
 ⟨(some 18), .mov (.t 2), none⟩,
 ⟨(some 19), .bin .add (.t 18) (.k (.int .i64 6)), none⟩,
 ⟨(some 20), .call 57 [(.t 17), (.t 19)], none⟩,
 ⟨(some 16), .mov (.t 20), none⟩,
 ⟨(some 21), .ext 0 (.t 16), none⟩,
 ⟨(some 22), .ext 1 (.t 16), none⟩,
 ⟨(some 7), .mov (.t 21), none⟩,
 ⟨(some 8), .mov (.t 22), none⟩])
 (.seq
 (.seq
 (.reg [
 ⟨(some 23), .mov (.t 8), none⟩,
 ⟨(some 24), .un .not (.t 23), none⟩,
 ⟨(some 25), .mov (.t 24), none⟩,
 ⟨(some 26), .mov (.t 7), (some (25, false))⟩,
 ⟨(some 27), .bin .rem (.t 26) (.k (.int .i64 2)), (some (25, false))⟩,
 ⟨(some 28), .bin .neq (.t 27) (.k (.int .i64 0)), (some (25, false))⟩,
 ⟨(some 29), .pick (.t 25) (.k (.bool true)) (.t 28), none⟩])
 (.cond (.t 29)
 (.seq
 (.reg [
 ⟨(some 6), .mov (.k (.bool false)), none⟩])
 .ret)
 .skip))
 (.seq
 (.reg [
 ⟨(some 30), .mov (.t 7), none⟩,
 ⟨(some 31), .bin .quo (.t 30) (.k (.int .i64 2)), none⟩,
 ⟨(some 7), .mov (.t 31), none⟩])
 (.seq
 (.reg [
 ⟨(some 33), .mov (.t 1), none⟩,
 ⟨(some 34), .mov (.t 2), none⟩,
 ⟨(some 35), .bin .add (.t 34) (.k (.int .i64 14)), none⟩,
 ⟨(some 36), .mov (.t 7), none⟩,
 ⟨(some 37), .call 58 [(.t 33), (.t 35), (.t 36), (.k (.int .i64 2))], none⟩,
 ⟨(some 32), .mov (.t 37), none⟩,
 ⟨(some 38), .ext 0 (.t 32), none⟩,
 ⟨(some 39), .ext 1 (.t 32), none⟩,
 ⟨(some 9), .mov (.t 38), none⟩,
 ⟨(some 10), .mov (.t 39), none⟩])
 (.seq
 (.reg [
 ⟨(some 41), .mov (.t 1), none⟩,
 ⟨(some 42), .mov (.t 2), none⟩,
 ⟨(some 43), .bin .add (.t 42) (.k (.int .i64 16)), none⟩,
 ⟨(some 44), .mov (.t 7), none⟩,
 ⟨(some 45), .bin .mul (.k (.int .i64 2)) (.t 44), none⟩,
 ⟨(some 46), .bin .add (.t 43) (.t 45), none⟩,
 ⟨(some 47), .mov (.t 7), none⟩,
 ⟨(some 48), .bin .mul (.k (.int .i64 3)) (.t 47), none⟩,
 ⟨(some 49), .call 58 [(.t 41), (.t 46), (.t 48), (.k (.int .i64 2))], none⟩,
 ⟨(some 40), .mov (.t 49), none⟩,
 ⟨(some 50), .ext 0 (.t 40), none⟩,
 ⟨(some 51), .ext 1 (.t 40), none⟩,
 ⟨(some 11), .mov (.t 50), none⟩,
 ⟨(some 12), .mov (.t 51), none⟩])
 (.seq
 (.seq
 (.reg [
 ⟨(some 52), .mov (.t 12), none⟩,
 ⟨(some 53), .un .not (.t 52), none⟩])
 (.cond (.t 53)
 (.seq
 (.reg [
 ⟨(some 6), .mov (.k (.bool false)), none⟩])
 .ret)
 .skip))
 (.seq
 (.reg [
 ⟨(some 13), .mov (.k (.int .i64 (-1))), none⟩])
 (.seq
 (.seq
 (.reg [
 ⟨(some 54), .mov (.t 7), none⟩,
 ⟨(some 55), .mov (.k (.int .i64 0)), none⟩])
 (.block 0
 (.loop
 (.seq
 (.reg [
 ⟨(some 56), .bin .lss (.t 55) (.t 54), none⟩])
 (.seq
 (.cond (.t 56)
 .skip
 (.exit 0))
 (.seq
 (.block 1
 (.seq
 (.reg [
 ⟨(some 57), .mov (.t 55), none⟩,
 ⟨(some 14), .mov (.t 57), none⟩])
 (.seq
 (.regd [
 ⟨⟨(some 58), .mov (.t 11), none⟩, 0, [], false⟩,
 ⟨⟨(some 59), .mov (.t 14), none⟩, 1, [], false⟩,
 ⟨⟨(some 60), .idx 1 (.t 58) (.t 59), none⟩, 2, [], true⟩,
 ⟨⟨(some 61), .load 1 false (.t 60), none⟩, 3, [], true⟩,
 ⟨⟨(some 62), .mov (.t 9), none⟩, 4, [], false⟩,
 ⟨⟨(some 63), .mov (.t 14), none⟩, 5, [], false⟩,
 ⟨⟨(some 64), .idx 1 (.t 62) (.t 63), none⟩, 6, [], true⟩,
 ⟨⟨(some 65), .load 1 false (.t 64), none⟩, 7, [], true⟩,
 ⟨⟨(some 66), .mov (.t 11), none⟩, 8, [], false⟩,
 ⟨⟨(some 67), .mov (.t 7), none⟩, 9, [], false⟩,
 ⟨⟨(some 68), .mov (.t 14), none⟩, 10, [], false⟩,
 ⟨⟨(some 69), .bin .add (.t 67) (.t 68), none⟩, 11, [], false⟩,
 ⟨⟨(some 70), .idx 1 (.t 66) (.t 69), none⟩, 12, [], true⟩,
 ⟨⟨(some 71), .load 1 false (.t 70), none⟩, 13, [], true⟩,
 ⟨⟨(some 72), .mov (.t 11), none⟩, 14, [], false⟩,
 ⟨⟨(some 73), .mov (.t 7), none⟩, 15, [], false⟩,
 ⟨⟨(some 74), .bin .mul (.k (.int .i64 2)) (.t 73), none⟩, 16, [], false⟩,
 ⟨⟨(some 75), .mov (.t 14), none⟩, 17, [], false⟩,
 ⟨⟨(some 76), .bin .add (.t 74) (.t 75), none⟩, 18, [], false⟩,
 ⟨⟨(some 77), .idx 1 (.t 72) (.t 76), none⟩, 19, [], true⟩,
 ⟨⟨(some 78), .load 1 false (.t 77), none⟩, 20, [], true⟩,
 ⟨⟨(some 79), .mov (.t 2), none⟩, 21, [], false⟩,
 ⟨⟨(some 80), .bin .add (.t 79) (.k (.int .i64 16)), none⟩, 22, [], false⟩,
 ⟨⟨(some 81), .mov (.t 7), none⟩, 23, [], false⟩,
 ⟨⟨(some 82), .bin .mul (.k (.int .i64 3)) (.t 81), none⟩, 24, [], false⟩,
 ⟨⟨(some 83), .mov (.t 14), none⟩, 25, [], false⟩,
 ⟨⟨(some 84), .bin .add (.t 82) (.t 83), none⟩, 26, [], false⟩,
 ⟨⟨(some 85), .bin .mul (.k (.int .i64 2)) (.t 84), none⟩, 27, [], false⟩,
 ⟨⟨(some 86), .bin .add (.t 80) (.t 85), none⟩, 28, [], false⟩,
 ⟨⟨(some 87), .build [(.int .i64 0), (.int .i64 0), (.int .i64 0), (.int .i64 0), (.int .i64 0)] [(0, 1, (.t 61)), (1, 1, (.t 65)), (2, 1, (.t 71)), (3, 1, (.t 78)), (4, 1, (.t 86))], none⟩, 29, [], false⟩,
 ⟨⟨(some 15), .new [(.int .i64 0), (.int .i64 0), (.int .i64 0), (.int .i64 0), (.int .i64 0)] 135, none⟩, 30, [], false⟩,
 ⟨⟨none, .store 5 (.t 15) (.t 87), none⟩, 31, [30, 29, 3, 2, 0, 1, 7, 6, 4, 5, 13, 12, 8, 11, 9, 10, 20, 19, 14, 18, 16, 15, 17, 28, 22, 21, 27, 26, 24, 23, 25], false⟩])
 (.seq
 (.seq
 (.reg [
 ⟨(some 88), .fld 0 (.t 15), none⟩,
 ⟨(some 89), .load 1 false (.t 88), none⟩,
 ⟨(some 90), .mov (.t 13), none⟩,
 ⟨(some 91), .bin .leq (.t 89) (.t 90), none⟩,
 ⟨(some 92), .mov (.t 91), none⟩,
 ⟨(some 93), .fld 1 (.t 15), (some (92, false))⟩,
 ⟨(some 94), .load 1 false (.t 93), (some (92, false))⟩,
 ⟨(some 95), .fld 0 (.t 15), (some (92, false))⟩,
 ⟨(some 96), .load 1 false (.t 95), (some (92, false))⟩,
 ⟨(some 97), .bin .lss (.t 94) (.t 96), (some (92, false))⟩,
 ⟨(some 98), .pick (.t 92) (.k (.bool true)) (.t 97), none⟩,
 ⟨(some 99), .mov (.t 98), none⟩,
 ⟨(some 100), .mov (.t 0), (some (99, false))⟩,
 ⟨(some 101), .mov (.t 1), (some (99, false))⟩,
 ⟨(some 102), .load 5 true (.t 15), (some (99, false))⟩,
 ⟨(some 103), .call 92 [(.t 100), (.t 101), (.t 102)], (some (99, false))⟩,
 ⟨(some 104), .un .not (.t 103), (some (99, false))⟩,
 ⟨(some 105), .pick (.t 99) (.k (.bool true)) (.t 104), none⟩])
 (.cond (.t 105)
 (.seq
 (.reg [
 ⟨(some 6), .mov (.k (.bool false)), none⟩])
 .ret)
 .skip))
 (.reg [
 ⟨(some 106), .fld 1 (.t 15), none⟩,
 ⟨(some 107), .load 1 false (.t 106), none⟩,
 ⟨(some 13), .mov (.t 107), none⟩])))))
 (.reg [
 ⟨(some 108), .bin .add (.t 55) (.k (.int .i64 1)), none⟩,
 ⟨(some 55), .mov (.t 108), none⟩])))))))
 (.seq
 (.reg [
 ⟨(some 6), .mov (.k (.bool true)), none⟩])
 .ret))))))))))
theorem a76 : Go.Proofs.Try.f76.body.bind (comp Go.Proofs.Try.prog) = some A76 := by kernel_rfl
theorem r76 : compRVs Go.Proofs.Try.prog Go.Proofs.Try.f76.results.toList = some [.tmp 6] := by kernel_rfl
theorem n76 : (Go.Proofs.Try.f76.name == "runtime.NumGoroutine") = false := by decide +kernel
def E76 : Nat × ACode × Nat × List RV := (76, A76, 109, [.tmp 6])
theorem e76 : EntryOk Go.Proofs.Try.prog E76 := ⟨Go.Proofs.Try.f76, Go.Proofs.Try.func76, n76, a76, Go.Proofs.Try.ntmps76, r76⟩
/-! reedpen/octet.read -/
def A77 : ACode :=
 (.seq
 (.reg [
 ⟨(some 6), .mov (.k (.int .i64 0)), none⟩,
 ⟨(some 7), .mov (.k (.bool false)), none⟩])
 (.seq
 (.seq
 (.reg [
 ⟨(some 8), .mov (.t 0), none⟩,
 ⟨(some 9), .mov (.t 1), none⟩,
 ⟨(some 10), .mov (.t 2), none⟩,
 ⟨(some 11), .call 71 [(.t 8), (.t 9), (.t 10)], none⟩,
 ⟨(some 12), .un .not (.t 11), none⟩])
 (.cond (.t 12)
 (.seq
 (.reg [
 ⟨(some 6), .mov (.k (.int .i64 0)), none⟩,
 ⟨(some 7), .mov (.k (.bool false)), none⟩])
 .ret)
 .skip))
 (.seq
 (.reg [
 ⟨(some 13), .mov (.t 0), none⟩,
 ⟨(some 14), .mov (.t 1), none⟩,
 ⟨(some 15), .mov (.t 1), none⟩,
 ⟨(some 16), .mov (.t 2), none⟩,
 ⟨(some 17), .bin .add (.t 15) (.t 16), none⟩,
 ⟨(some 18), .sl 1 (.t 13) (some (.t 14)) (some (.t 17)) none, none⟩,
 ⟨(some 19), .call 80 [(.t 18)], none⟩,
 ⟨(some 6), .mov (.t 19), none⟩,
 ⟨(some 7), .mov (.k (.bool true)), none⟩])
 .ret)))
theorem a77 : Go.Proofs.Try.f77.body.bind (comp Go.Proofs.Try.prog) = some A77 := by kernel_rfl
theorem r77 : compRVs Go.Proofs.Try.prog Go.Proofs.Try.f77.results.toList = some [.tmp 6, .tmp 7] := by kernel_rfl
theorem n77 : (Go.Proofs.Try.f77.name == "runtime.NumGoroutine") = false := by decide +kernel
def E77 : Nat × ACode × Nat × List RV := (77, A77, 20, [.tmp 6, .tmp 7])
theorem e77 : EntryOk Go.Proofs.Try.prog E77 := ⟨Go.Proofs.Try.f77, Go.Proofs.Try.func77, n77, a77, Go.Proofs.Try.ntmps77, r77⟩
/-! reedpen/octet.many[int] -/
def A78 : ACode :=
 (.seq
 (.reg [
 ⟨(some 4), .mov (.k (.vec true [])), none⟩])
 (.seq
 (.reg [
 ⟨(some 5), .mov (.k (.vec true [])), none⟩])
 (.seq
 (.seq
 (.reg [
 ⟨(some 7), .mov (.t 0), none⟩,
 ⟨(some 8), .mov (.k (.int .i64 0)), none⟩])
 (.block 0
 (.loop
 (.seq
 (.reg [
 ⟨(some 9), .bin .lss (.t 8) (.t 7), none⟩])
 (.seq
 (.cond (.t 9)
 .skip
 (.exit 0))
 (.seq
 (.block 1
 (.seq
 (.reg [
 ⟨(some 10), .mov (.t 8), none⟩,
 ⟨(some 6), .mov (.t 10), none⟩])
 (.reg [
 ⟨(some 11), .mov (.t 5), none⟩,
 ⟨(some 12), .mov (.t 1), none⟩,
 ⟨(some 13), .mov (.t 6), none⟩,
 ⟨(some 14), .callv (.t 12) [(.t 13)], none⟩,
 ⟨(some 15), .lits 1 3 [(.t 14)], none⟩,
 ⟨(some 16), .app 1 8 3 (.t 11) (.t 15), none⟩,
 ⟨(some 5), .mov (.t 16), none⟩])))
 (.reg [
 ⟨(some 17), .bin .add (.t 8) (.k (.int .i64 1)), none⟩,
 ⟨(some 8), .mov (.t 17), none⟩])))))))
 (.seq
 (.reg [
 ⟨(some 18), .mov (.t 5), none⟩,
 ⟨(some 4), .mov (.t 18), none⟩])
 .ret))))
theorem a78 : Go.Proofs.Try.f78.body.bind (comp Go.Proofs.Try.prog) = some A78 := by kernel_rfl
theorem r78 : compRVs Go.Proofs.Try.prog Go.Proofs.Try.f78.results.toList = some [.tmp 4] := by kernel_rfl
theorem n78 : (Go.Proofs.Try.f78.name == "runtime.NumGoroutine") = false := by decide +kernel
def E78 : Nat × ACode × Nat × List RV := (78, A78, 19, [.tmp 4])
theorem e78 : EntryOk Go.Proofs.Try.prog E78 := ⟨Go.Proofs.Try.f78, Go.Proofs.Try.func78, n78, a78, Go.Proofs.Try.ntmps78, r78⟩
/-! reedpen/octet.Row$1 -/
def A79 : ACode :=
 (.seq
 (.reg [
 ⟨(some 5), .mov (.k (.int .i64 0)), none⟩])
 (.seq
 (.reg [
 ⟨(some 6), .load 1 false (.t 1), none⟩,
 ⟨(some 7), .load 1 false (.t 2), none⟩,
 ⟨(some 8), .mov (.t 0), none⟩,
 ⟨(some 9), .load 1 false (.t 3), none⟩,
 ⟨(some 10), .bin .mul (.t 8) (.t 9), none⟩,
 ⟨(some 11), .bin .add (.t 7) (.t 10), none⟩,
 ⟨(some 12), .load 1 false (.t 2), none⟩,
 ⟨(some 13), .mov (.t 0), none⟩,
 ⟨(some 14), .bin .add (.t 13) (.k (.int .i64 1)), none⟩,
 ⟨(some 15), .load 1 false (.t 3), none⟩,
 ⟨(some 16), .bin .mul (.t 14) (.t 15), none⟩,
 ⟨(some 17), .bin .add (.t 12) (.t 16), none⟩,
 ⟨(some 18), .sl 1 (.t 6) (some (.t 11)) (some (.t 17)) none, none⟩,
 ⟨(some 19), .call 80 [(.t 18)], none⟩,
 ⟨(some 5), .mov (.t 19), none⟩])
 .ret))
theorem a79 : Go.Proofs.Try.f79.body.bind (comp Go.Proofs.Try.prog) = some A79 := by kernel_rfl
theorem r79 : compRVs Go.Proofs.Try.prog Go.Proofs.Try.f79.results.toList = some [.tmp 5] := by kernel_rfl
theorem n79 : (Go.Proofs.Try.f79.name == "runtime.NumGoroutine") = false := by decide +kernel
def E79 : Nat × ACode × Nat × List RV := (79, A79, 20, [.tmp 5])
theorem e79 : EntryOk Go.Proofs.Try.prog E79 := ⟨Go.Proofs.Try.f79, Go.Proofs.Try.func79, n79, a79, Go.Proofs.Try.ntmps79, r79⟩
/-! reedpen/octet.number -/
def A80 : ACode :=
 (.seq
 (.reg [
 ⟨(some 2), .mov (.k (.int .i64 0)), none⟩])
 (.seq
 (.reg [
 ⟨(some 3), .mov (.k (.int .i64 0)), none⟩])
 (.seq
 (.seq
 (.reg [
 ⟨(some 6), .mov (.t 0), none⟩,
 ⟨(some 7), .len false (.t 6), none⟩,
 ⟨(some 8), .mov (.k (.int .i64 0)), none⟩])
 (.block 0
 (.loop
 (.seq
 (.reg [
 ⟨(some 9), .bin .lss (.t 8) (.t 7), none⟩])
 (.seq
 (.cond (.t 9)
 .skip
 (.exit 0))
 (.seq
 (.block 1
 (.seq
 (.reg [
 ⟨(some 10), .idx 1 (.t 6) (.t 8), none⟩,
 ⟨(some 11), .load 1 false (.t 10), none⟩,
 ⟨(some 5), .mov (.t 11), none⟩])
 (.reg [
 ⟨(some 12), .mov (.t 3), none⟩,
 ⟨(some 13), .bin .shl (.t 12) (.k (.int .u64 8)), none⟩,
 ⟨(some 14), .mov (.t 5), none⟩,
 ⟨(some 15), .conv .i64 (.t 14), none⟩,
 ⟨(some 16), .bin .or (.t 13) (.t 15), none⟩,
 ⟨(some 3), .mov (.t 16), none⟩])))
 (.reg [
 ⟨(some 17), .bin .add (.t 8) (.k (.int .i64 1)), none⟩,
 ⟨(some 8), .mov (.t 17), none⟩])))))))
 (.seq
 (.reg [
 ⟨(some 18), .mov (.t 3), none⟩,
 ⟨(some 2), .mov (.t 18), none⟩])
 .ret))))
theorem a80 : Go.Proofs.Try.f80.body.bind (comp Go.Proofs.Try.prog) = some A80 := by kernel_rfl
theorem r80 : compRVs Go.Proofs.Try.prog Go.Proofs.Try.f80.results.toList = some [.tmp 2] := by kernel_rfl
theorem n80 : (Go.Proofs.Try.f80.name == "runtime.NumGoroutine") = false := by decide +kernel
def E80 : Nat × ACode × Nat × List RV := (80, A80, 19, [.tmp 2])
theorem e80 : EntryOk Go.Proofs.Try.prog E80 := ⟨Go.Proofs.Try.f80, Go.Proofs.Try.func80, n80, a80, Go.Proofs.Try.ntmps80, r80⟩
/-! (*reedpen/gdef.list).add -/
def A91 : ACode :=
 (.seq
 (.seq
 (.reg [
 ⟨(some 11), .mov (.t 3), none⟩,
 ⟨(some 12), .bin .eql (.t 11) (.k (.int .i64 0)), none⟩])
 (.cond (.t 12)
 (.reg [
 ⟨(some 13), .mov (.t 1), none⟩,
 ⟨(some 14), .bin .add (.t 13) (.k (.int .i64 1)), none⟩,
 ⟨(some 1), .mov (.t 14), none⟩,
 ⟨(some 3), .mov (.k (.int .i64 1)), none⟩])
 .skip))
 (.seq
 (.reg [
 ⟨(some 15), .mov (.t 2), none⟩,
 ⟨(some 16), .mov (.t 1), none⟩,
 ⟨(some 17), .mov (.t 0), none⟩,
 ⟨(some 18), .nchk (.t 17), none⟩,
 ⟨(some 19), .fld 1 (.t 18), none⟩,
 ⟨(some 20), .load 1 false (.t 19), none⟩,
 ⟨(some 21), .bin .add (.t 16) (.t 20), none⟩,
 ⟨(some 22), .bin .sub (.t 21) (.k (.int .i64 1)), none⟩,
 ⟨(some 23), .mov (.t 3), none⟩,
 ⟨(some 24), .bin .sub (.t 22) (.t 23), none⟩,
 ⟨(some 25), .minmax false (.t 15) (.t 24), none⟩,
 ⟨(some 2), .mov (.t 25), none⟩])
 (.seq
 (.seq
 (.reg [
 ⟨(some 26), .mov (.t 1), none⟩,
 ⟨(some 27), .mov (.t 2), none⟩,
 ⟨(some 28), .bin .gtr (.t 26) (.t 27), none⟩])
 (.cond (.t 28)
 .ret
 .skip))
 (.seq
 (.reg [
 ⟨(some 29), .mov (.t 1), none⟩,
 ⟨(some 30), .conv .i32 (.t 29), none⟩,
 ⟨(some 31), .mov (.t 2), none⟩,
 ⟨(some 32), .conv .i32 (.t 31), none⟩,
 ⟨(some 33), .mov (.t 3), none⟩,
 ⟨(some 34), .build [(.int .i32 0), (.int .i32 0), (.int .i64 0)] [(0, 1, (.t 30)), (1, 1, (.t 32)), (2, 1, (.t 33))], none⟩,
 ⟨(some 8), .new [(.int .i32 0), (.int .i32 0), (.int .i64 0)] 76, none⟩,
 ⟨none, .store 3 (.t 8) (.t 34), none⟩])
 (.seq
 (.seq
 (.reg [
 ⟨(some 35), .mov (.t 0), none⟩,
 ⟨(some 36), .nchk (.t 35), none⟩,
 ⟨(some 37), .fld 0 (.t 36), none⟩,
 ⟨(some 38), .load 1 false (.t 37), none⟩,
 ⟨(some 39), .len false (.t 38), none⟩,
 ⟨(some 9), .mov (.t 39), none⟩])
 (.seq
 (.reg [
 ⟨(some 40), .mov (.t 9), none⟩,
 ⟨(some 41), .bin .gtr (.t 40) (.k (.int .i64 0)), none⟩])
 (.cond (.t 41)
 (.seq
 (.reg [
 ⟨(some 42), .mov (.t 0), none⟩,
 ⟨(some 43), .nchk (.t 42), none⟩,
 ⟨(some 44), .fld 0 (.t 43), none⟩,
 ⟨(some 45), .load 1 false (.t 44), none⟩,
 ⟨(some 46), .mov (.t 9), none⟩,
 ⟨(some 47), .bin .sub (.t 46) (.k (.int .i64 1)), none⟩,
 ⟨(some 48), .idx 3 (.t 45) (.t 47), none⟩,
 ⟨(some 10), .mov (.t 48), none⟩])
 (.seq
 (.regd [
 ⟨⟨(some 49), .mov (.t 10), none⟩, 0, [], false⟩,
 ⟨⟨(some 50), .nchk (.t 49), none⟩, 1, [], false⟩,
 ⟨⟨(some 51), .fld 1 (.t 50), none⟩, 2, [], false⟩,
 ⟨⟨(some 52), .load 1 false (.t 51), none⟩, 3, [], false⟩,
 ⟨⟨(some 53), .bin .add (.t 52) (.k (.int .i32 1)), none⟩, 4, [], false⟩,
 ⟨⟨(some 54), .fld 0 (.t 8), none⟩, 5, [], false⟩,
 ⟨⟨(some 55), .load 1 false (.t 54), none⟩, 6, [], false⟩,
 ⟨⟨(some 56), .bin .eql (.t 53) (.t 55), none⟩, 7, [], false⟩,
 ⟨⟨(some 57), .mov (.t 56), none⟩, 8, [], false⟩,
 ⟨⟨(some 58), .mov (.t 10), (some (57, true))⟩, 9, [], false⟩,
 ⟨⟨(some 59), .nchk (.t 58), (some (57, true))⟩, 10, [], false⟩,
 ⟨⟨(some 60), .fld 2 (.t 59), (some (57, true))⟩, 11, [], false⟩,
 ⟨⟨(some 61), .load 1 false (.t 60), (some (57, true))⟩, 12, [], false⟩,
 ⟨⟨(some 62), .mov (.t 10), (some (57, true))⟩, 13, [], false⟩,
 ⟨⟨(some 63), .nchk (.t 62), (some (57, true))⟩, 14, [], false⟩,
 ⟨⟨(some 64), .fld 1 (.t 63), (some (57, true))⟩, 15, [], false⟩,
 ⟨⟨(some 65), .load 1 false (.t 64), (some (57, true))⟩, 16, [], false⟩,
 ⟨⟨(some 66), .mov (.t 10), (some (57, true))⟩, 17, [], false⟩,
 ⟨⟨(some 67), .nchk (.t 66), (some (57, true))⟩, 18, [], false⟩,
 ⟨⟨(some 68), .fld 0 (.t 67), (some (57, true))⟩, 19, [], false⟩,
 ⟨⟨(some 69), .load 1 false (.t 68), (some (57, true))⟩, 20, [], false⟩,
 ⟨⟨(some 70), .bin .sub (.t 65) (.t 69), (some (57, true))⟩, 21, [], false⟩,
 ⟨⟨(some 71), .conv .i64 (.t 70), (some (57, true))⟩, 22, [], false⟩,
 ⟨⟨(some 72), .bin .add (.t 61) (.t 71), (some (57, true))⟩, 23, [], false⟩,
 ⟨⟨(some 73), .bin .add (.t 72) (.k (.int .i64 1)), (some (57, true))⟩, 24, [], false⟩,
 ⟨⟨(some 74), .fld 2 (.t 8), (some (57, true))⟩, 25, [], false⟩,
 ⟨⟨(some 75), .load 1 false (.t 74), (some (57, true))⟩, 26, [], false⟩,
 ⟨⟨(some 76), .bin .eql (.t 73) (.t 75), (some (57, true))⟩, 27, [], false⟩,
 ⟨⟨(some 77), .pick (.t 57) (.t 76) (.k (.bool false)), none⟩, 28, [], false⟩])
 (.cond (.t 77)
 (.seq
 (.reg [
 ⟨(some 78), .mov (.t 10), none⟩,
 ⟨(some 79), .fld 1 (.t 8), none⟩,
 ⟨(some 80), .load 1 false (.t 79), none⟩,
 ⟨(some 81), .nchk (.t 78), none⟩,
 ⟨(some 82), .fld 1 (.t 81), none⟩,
 ⟨none, .store 1 (.t 82) (.t 80), none⟩])
 .ret)
 .skip)))
 .skip)))
 (.regd [
 ⟨⟨(some 83), .mov (.t 0), none⟩, 0, [], false⟩,
 ⟨⟨(some 84), .mov (.t 0), none⟩, 1, [], false⟩,
 ⟨⟨(some 85), .nchk (.t 84), none⟩, 2, [], false⟩,
 ⟨⟨(some 86), .fld 0 (.t 85), none⟩, 3, [], false⟩,
 ⟨⟨(some 87), .load 1 false (.t 86), none⟩, 4, [], false⟩,
 ⟨⟨(some 88), .load 3 true (.t 8), none⟩, 5, [], false⟩,
 ⟨⟨(some 89), .lits 3 76 [(.t 88)], none⟩, 6, [], false⟩,
 ⟨⟨(some 90), .app 3 16 76 (.t 87) (.t 89), none⟩, 7, [4, 3, 2, 1, 6, 5], false⟩,
 ⟨⟨(some 91), .nchk (.t 83), none⟩, 8, [], false⟩,
 ⟨⟨(some 92), .fld 0 (.t 91), none⟩, 9, [], false⟩,
 ⟨⟨none, .store 1 (.t 92) (.t 90), none⟩, 10, [9, 8, 0, 1, 2, 3, 4, 5, 6, 7], false⟩]))))))
theorem a91 : Go.Proofs.Try.f91.body.bind (comp Go.Proofs.Try.prog) = some A91 := by kernel_rfl
theorem r91 : compRVs Go.Proofs.Try.prog Go.Proofs.Try.f91.results.toList = some [] := by kernel_rfl
theorem n91 : (Go.Proofs.Try.f91.name == "runtime.NumGoroutine") = false := by decide +kernel
def E91 : Nat × ACode × Nat × List RV := (91, A91, 93, [])
theorem e91 : EntryOk Go.Proofs.Try.prog E91 := ⟨Go.Proofs.Try.f91, Go.Proofs.Try.func91, n91, a91, Go.Proofs.Try.ntmps91, r91⟩
/-! (*reedpen/gdef.list).narrow -/
def A92 : ACode :=
 (.seq
 (.reg [
 ⟨(some 5), .box (.t 2) 135, none⟩,
 ⟨(some 6), .mov (.k (.bool false)), none⟩])
 (.seq
 (.seq
 (.reg [
 ⟨(some 11), .fld 0 (.t 5), none⟩,
 ⟨(some 12), .load 1 false (.t 11), none⟩,
 ⟨(some 7), .mov (.t 12), none⟩])
 (.block 0
 (.loop
 (.seq
 (.seq
 (.reg [
 ⟨(some 13), .mov (.t 7), none⟩,
 ⟨(some 14), .fld 1 (.t 5), none⟩,
 ⟨(some 15), .load 1 false (.t 14), none⟩,
 ⟨(some 16), .bin .leq (.t 13) (.t 15), none⟩])
 (.cond (.t 16)
 .skip
 (.exit 0)))
 (.seq
 (.block 1
 (.seq
 (.reg [
 ⟨(some 19), .mov (.t 7), none⟩,
 ⟨(some 8), .mov (.t 19), none⟩])
 (.seq
 (.seq
 (.reg [
 ⟨(some 20), .fld 3 (.t 5), none⟩,
 ⟨(some 21), .load 1 false (.t 20), none⟩,
 ⟨(some 22), .bin .neq (.t 21) (.k (.int .i64 0)), none⟩])
 (.cond (.t 22)
 (.seq
 (.reg [
 ⟨(some 24), .mov (.t 1), none⟩,
 ⟨(some 25), .fld 4 (.t 5), none⟩,
 ⟨(some 26), .load 1 false (.t 25), none⟩,
 ⟨(some 27), .fld 3 (.t 5), none⟩,
 ⟨(some 28), .load 1 false (.t 27), none⟩,
 ⟨(some 29), .bin .add (.t 26) (.t 28), none⟩,
 ⟨(some 30), .mov (.t 7), none⟩,
 ⟨(some 31), .fld 0 (.t 5), none⟩,
 ⟨(some 32), .load 1 false (.t 31), none⟩,
 ⟨(some 33), .bin .sub (.t 30) (.t 32), none⟩,
 ⟨(some 34), .bin .mul (.k (.int .i64 2)) (.t 33), none⟩,
 ⟨(some 35), .bin .add (.t 29) (.t 34), none⟩,
 ⟨(some 36), .call 57 [(.t 24), (.t 35)], none⟩,
 ⟨(some 23), .mov (.t 36), none⟩,
 ⟨(some 37), .ext 0 (.t 23), none⟩,
 ⟨(some 38), .ext 1 (.t 23), none⟩,
 ⟨(some 9), .mov (.t 37), none⟩,
 ⟨(some 10), .mov (.t 38), none⟩])
 (.seq
 (.seq
 (.reg [
 ⟨(some 39), .mov (.t 10), none⟩,
 ⟨(some 40), .un .not (.t 39), none⟩])
 (.cond (.t 40)
 (.seq
 (.reg [
 ⟨(some 6), .mov (.k (.bool false)), none⟩])
 .ret)
 .skip))
 (.seq
 (.seq
 (.reg [
 ⟨(some 41), .mov (.t 9), none⟩,
 ⟨(some 42), .bin .eql (.t 41) (.k (.int .i64 0)), none⟩])
 (.cond (.t 42)
 (.exit 1)
 .skip))
 (.reg [
 ⟨(some 43), .mov (.t 9), none⟩,
 ⟨(some 8), .mov (.t 43), none⟩]))))
 .skip))
 (.seq
 (.reg [
 ⟨(some 44), .mov (.t 8), none⟩,
 ⟨(some 45), .fld 2 (.t 5), none⟩,
 ⟨(some 46), .load 1 false (.t 45), none⟩,
 ⟨(some 47), .bin .add (.t 44) (.t 46), none⟩,
 ⟨(some 48), .bin .rem (.t 47) (.k (.int .i64 65536)), none⟩,
 ⟨(some 8), .mov (.t 48), none⟩])
 (.seq
 (.reg [
 ⟨(some 49), .mov (.t 8), none⟩,
 ⟨(some 50), .bin .neq (.t 49) (.k (.int .i64 0)), none⟩])
 (.cond (.t 50)
 (.reg [
 ⟨(some 51), .mov (.t 0), none⟩,
 ⟨(some 52), .mov (.t 7), none⟩,
 ⟨(some 53), .mov (.t 7), none⟩,
 ⟨(some 54), .mov (.t 8), none⟩,
 ⟨(some 55), .call 91 [(.t 51), (.t 52), (.t 53), (.t 54)], none⟩])
 .skip))))))
 (.reg [
 ⟨(some 17), .mov (.t 7), none⟩,
 ⟨(some 18), .bin .add (.t 17) (.k (.int .i64 1)), none⟩,
 ⟨(some 7), .mov (.t 18), none⟩]))))))
 (.seq
 (.reg [
 ⟨(some 6), .mov (.k (.bool true)), none⟩])
 .ret)))
theorem a92 : Go.Proofs.Try.f92.body.bind (comp Go.Proofs.Try.prog) = some A92 := by kernel_rfl
theorem r92 : compRVs Go.Proofs.Try.prog Go.Proofs.Try.f92.results.toList = some [.tmp 6] := by kernel_rfl
theorem n92 : (Go.Proofs.Try.f92.name == "runtime.NumGoroutine") = false := by decide +kernel
def E92 : Nat × ACode × Nat × List RV := (92, A92, 56, [.tmp 6])
theorem e92 : EntryOk Go.Proofs.Try.prog E92 := ⟨Go.Proofs.Try.f92, Go.Proofs.Try.func92, n92, a92, Go.Proofs.Try.ntmps92, r92⟩
end Go.Proofs.Ytakplhfiohjcmaa.AI
